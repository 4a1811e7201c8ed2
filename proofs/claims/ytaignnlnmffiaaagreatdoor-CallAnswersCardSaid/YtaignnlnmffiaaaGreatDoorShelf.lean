/-
  DERIVED: THE SHELF's CONTRACTS AT THIS DUMP, IN PLAIN WORDS (tools/lay-plain.mjs out of 'TryzShelf.lean', which tools/lay-shelf.mjs wrote): THE SAME DECLARATIONS UNDER THE SAME NAMES: 'import', 'namespace', 'open', 'def', 'theorem' AND NOTHING ELSE: no command of the shelf's: FOR A HAND-IN. Each laying: the table of numbers ('.._ren') and one theorem, a field a fact of the dump's own or the kernel's comparison; each contract: ONE APPLICATION.
-/
import Derived.Shelf.Strings.Builder1
import Derived.Shelf.Strings.Builder2
import Derived.Shelf.Strings.OnBuilder
import Derived.Shelf.Strings.Trim
import Derived.Shelf.Small.Utf8
import Derived.Shelf.Small.Strs
import Derived.Shelf.Small.Wraps
import Derived.Shelf.Strconv.Itoa0
import Derived.Shelf.Strconv.Itoa1
import Derived.Shelf.LaysM
import Derived.Shelf.Strconv.Itoa2
import Derived.Shelf.Strconv.Itoa3
import Derived.Ground.MpProg
import Derived.Shelf.Pu.ParseUintPublic10
import Derived.Shelf.Strings.Search1
import Derived.Shelf.Strings.Search2
import Derived.Shelf.Strings.Search3
import Derived.Shelf.Strings.Cut
import Derived.Shelf.Strings.Count
import Derived.Shelf.Strings.Shaped
import Derived.Shelf.Sort.Plain
import Derived.Shelf.Strings.LastIndex
import Derived.Shelf.Strings.Prefix
import Derived.Shelf.Strings.Split
import Derived.Shelf.Strings.Replace
import Derived.Shelf.Strings.SplitShaped
import Derived.Shelf.Strings.Runes
import Derived.Shelf.Strings.IndexAny
import Derived.Shelf.Strings.AsciiSet
import Derived.Shelf.Strings.IndexAnyAll
import Derived.Shelf.Unicode.DecodeSlow
import Derived.Shelf.Slices.CompactS
import Derived.Shelf.Slices.In.SortNone
import Derived.Test.YtaignnlnmffiaaaGreatDoorProg
namespace Go.Proofs
open Go.Shelf
def Tryz.lays156_ren : Go.Shelf.Ren := ⟨fun | 156 => 32 | 165 => 65 | 166 => 66 | 169 => 67 | 240 => 100 | 241 => 101 | 276 => 142 | 277 => 143 | n => n, fun | 31 => 22 | 9 => 9 | 3 => 3 | 4 => 4 | 0 => 0 | 20 => 20 | 72 => 75 | 76 => 77 | 70 => 72 | 37 => 73 | 75 => 55 | 127 => 98 | 164 => 128 | 5 => 5 | 80 => 79 | n => n, fun | n => n⟩
theorem Tryz.lays156 : Go.Proofs.Lays.n156 Tryz.prog Tryz.lays156_ren := {
  mixed := by kernel_rfl
  f156 := Tryz.func32.trans (congrArg some (by kernel_rfl))
  f165 := Tryz.func65.trans (congrArg some (by kernel_rfl))
  f166 := Tryz.func66.trans (congrArg some (by kernel_rfl))
  f169 := Tryz.func67.trans (congrArg some (by kernel_rfl))
  f240 := Tryz.func100.trans (congrArg some (by kernel_rfl))
  f241 := Tryz.func101.trans (congrArg some (by kernel_rfl))
  f276 := Tryz.func142.trans (congrArg some (by kernel_rfl))
  f277 := Tryz.func143.trans (congrArg some (by kernel_rfl))
  t0 := Tryz.underlying0
  a0 := Tryz.isAgg0
  z0 := Tryz.sizeOf0
  v0 := Tryz.zeroValue0
  t3 := Tryz.underlying3
  a3 := Tryz.isAgg3
  z3 := Tryz.sizeOf3
  v3 := Tryz.zeroValue3
  t4 := Tryz.underlying4
  a4 := Tryz.isAgg4
  z4 := Tryz.sizeOf4
  v4 := Tryz.zeroValue4
  t9 := Tryz.underlying9
  a9 := Tryz.isAgg9
  z9 := Tryz.sizeOf9
  v9 := Tryz.zeroValue9
  t20 := Tryz.underlying20
  a20 := Tryz.isAgg20
  z20 := Tryz.sizeOf20
  v20 := Tryz.zeroValue20
  t31 := Tryz.underlying22
  a31 := Tryz.isAgg22
  z31 := Tryz.sizeOf22
  v31 := Tryz.zeroValue22
  t37 := Tryz.underlying73
  a37 := Tryz.isAgg73
  z37 := Tryz.sizeOf73
  v37 := Tryz.zeroValue73
  t70 := Tryz.underlying72
  a70 := Tryz.isAgg72
  z70 := Tryz.sizeOf72
  v70 := Tryz.zeroValue72
  t72 := Tryz.underlying75
  a72 := Tryz.isAgg75
  z72 := Tryz.sizeOf75
  v72 := Tryz.zeroValue75
  t75 := Tryz.underlying55
  a75 := Tryz.isAgg55
  z75 := Tryz.sizeOf55
  v75 := Tryz.zeroValue55
  t76 := Tryz.underlying77
  a76 := Tryz.isAgg77
  z76 := Tryz.sizeOf77
  v76 := Tryz.zeroValue77
  t127 := Tryz.underlying98
  a127 := Tryz.isAgg98
  z127 := Tryz.sizeOf98
  v127 := Tryz.zeroValue98
  t164 := Tryz.underlying128
  a164 := Tryz.isAgg128
  z164 := Tryz.sizeOf128
  v164 := Tryz.zeroValue128 }
theorem Tryz.Builder_Extra_156 : Builder.Extra Tryz.prog Tryz.lays156_ren := {
  sizeBuilder := by kernel_rfl
  liesBuilder := by kernel_rfl
  t5 := Tryz.underlying5
  a5 := Tryz.isAgg5
  z5 := Tryz.sizeOf5
  v5 := Tryz.zeroValue5
  infoByte := by kernel_rfl
  cellsByte := by kernel_rfl
  sizeByte := by kernel_rfl
  neB5 := by decide }
open Go.RowKit in
/-- No element: the empty string; the world is as it was. (Whatever the slice's address and capacity: a nil slice too.) (LAID: no walk: one application.) -/
theorem Tryz.strings_Join_none (a : Option Addr) (c : Nat) (sep : ByteArray) (w : World) :
    Calls Tryz.prog 32 #[.slice a 0 c, .string sep] w fun e w' => e = .returned (.string ⟨#[]⟩) ∧ w' = w := Any.strings_Join_none Tryz.lays156 Tryz.Builder_Extra_156 a c sep w
open Go.RowKit in
/-- strings.Join: "Join concatenates the elements of its first argument to create a single string. The separator string sep is placed between elements in the resulting string.": HOWEVER MANY ELEMENTS. Below the heap's end the world is as it was. (LAID: no walk: one application.) -/
theorem Tryz.strings_Join (bk o c : Nat) (xs : List ByteArray) (sep : ByteArray) (w : World) (hcells : ∀ (j : Nat) x, xs[j]? = some x → w.cell? ⟨bk, o + j, none⟩ = some (.string x)) (hbk : bk < w.heap.size) (hN : xs.length ≤ 140737488355328) (hcap : xs.length ≤ c) (hlen : (Lib.join (xs.map (·.data.toList)) sep.data.toList).length ≤ 140737488355328) :
    Calls Tryz.prog 32 #[.slice (some ⟨bk, o, none⟩) xs.length c, .string sep] w fun e w' => e = .returned (.string ⟨(Lib.join (xs.map (·.data.toList)) sep.data.toList).toArray⟩) ∧ Below w.heap.size w w' := Any.strings_Join Tryz.lays156 Tryz.Builder_Extra_156 bk o c xs sep w hcells hbk hN hcap hlen
def Tryz.lays161_ren : Go.Shelf.Ren := ⟨fun | 161 => 63 | 231 => 71 | 227 => 73 | 233 => 74 | 235 => 76 | 228 => 99 | 197 => 109 | 151 => 110 | 260 => 150 | 152 => 97 | 137 => 138 | 119 => 139 | 224 => 140 | 225 => 141 | 217 => 159 | 266 => 173 | n => n, fun | 9 => 9 | 4 => 4 | 3 => 3 | 5 => 5 | 117 => 84 | 116 => 83 | 0 => 0 | 124 => 87 | 105 => 105 | 21 => 21 | 119 => 152 | 46 => 90 | 139 => 155 | 138 => 154 | n => n, fun | 3 => 4 | 4 => 5 | n => n⟩
theorem Tryz.lays161 : Go.Proofs.Lays.n161 Tryz.prog Tryz.lays161_ren := {
  mixed := by kernel_rfl
  f119 := Tryz.func139.trans (congrArg some (by kernel_rfl))
  f137 := Tryz.func138.trans (congrArg some (by kernel_rfl))
  f151 := Tryz.func110.trans (congrArg some (by kernel_rfl))
  f152 := Tryz.func97.trans (congrArg some (by kernel_rfl))
  f161 := Tryz.func63.trans (congrArg some (by kernel_rfl))
  f197 := Tryz.func109.trans (congrArg some (by kernel_rfl))
  f217 := Tryz.func159.trans (congrArg some (by kernel_rfl))
  f224 := Tryz.func140.trans (congrArg some (by kernel_rfl))
  f225 := Tryz.func141.trans (congrArg some (by kernel_rfl))
  f227 := Tryz.func73.trans (congrArg some (by kernel_rfl))
  f228 := Tryz.func99.trans (congrArg some (by kernel_rfl))
  f231 := Tryz.func71.trans (congrArg some (by kernel_rfl))
  f233 := Tryz.func74.trans (congrArg some (by kernel_rfl))
  f235 := Tryz.func76.trans (congrArg some (by kernel_rfl))
  f260 := Tryz.func150.trans (congrArg some (by kernel_rfl))
  f266 := Tryz.func173.trans (congrArg some (by kernel_rfl))
  t0 := Tryz.underlying0
  a0 := Tryz.isAgg0
  z0 := Tryz.sizeOf0
  v0 := Tryz.zeroValue0
  t3 := Tryz.underlying3
  a3 := Tryz.isAgg3
  z3 := Tryz.sizeOf3
  v3 := Tryz.zeroValue3
  t4 := Tryz.underlying4
  a4 := Tryz.isAgg4
  z4 := Tryz.sizeOf4
  v4 := Tryz.zeroValue4
  t5 := Tryz.underlying5
  a5 := Tryz.isAgg5
  z5 := Tryz.sizeOf5
  v5 := Tryz.zeroValue5
  t9 := Tryz.underlying9
  a9 := Tryz.isAgg9
  z9 := Tryz.sizeOf9
  v9 := Tryz.zeroValue9
  t21 := Tryz.underlying21
  a21 := Tryz.isAgg21
  z21 := Tryz.sizeOf21
  v21 := Tryz.zeroValue21
  t46 := Tryz.underlying90
  a46 := Tryz.isAgg90
  z46 := Tryz.sizeOf90
  v46 := Tryz.zeroValue90
  t105 := Tryz.underlying105
  a105 := Tryz.isAgg105
  z105 := Tryz.sizeOf105
  v105 := Tryz.zeroValue105
  t116 := Tryz.underlying83
  a116 := Tryz.isAgg83
  z116 := Tryz.sizeOf83
  t117 := Tryz.underlying84
  a117 := Tryz.isAgg84
  z117 := Tryz.sizeOf84
  v117 := Tryz.zeroValue84
  t119 := Tryz.underlying152
  a119 := Tryz.isAgg152
  z119 := Tryz.sizeOf152
  t124 := Tryz.underlying87
  a124 := Tryz.isAgg87
  z124 := Tryz.sizeOf87
  v124 := Tryz.zeroValue87
  t138 := Tryz.underlying154
  a138 := Tryz.isAgg154
  z138 := Tryz.sizeOf154
  v138 := Tryz.zeroValue154
  t139 := Tryz.underlying155
  a139 := Tryz.isAgg155
  z139 := Tryz.sizeOf155
  v139 := Tryz.zeroValue155
  g3 := by kernel_rfl
  g4 := by kernel_rfl }
def Tryz.lays160_ren : Go.Shelf.Ren := ⟨fun | 160 => 35 | 232 => 72 | 231 => 71 | 227 => 73 | 234 => 75 | 233 => 74 | 236 => 77 | 235 => 76 | 228 => 99 | 271 => 111 | 151 => 110 | 197 => 109 | 120 => 151 | 152 => 97 | 260 => 150 | 137 => 138 | 119 => 139 | 224 => 140 | 225 => 141 | 217 => 159 | 266 => 173 | n => n, fun | 9 => 9 | 4 => 4 | 3 => 3 | 5 => 5 | 117 => 84 | 116 => 83 | 0 => 0 | 124 => 87 | 21 => 21 | 105 => 105 | 46 => 90 | 119 => 152 | 139 => 155 | 138 => 154 | n => n, fun | 3 => 4 | 4 => 5 | n => n⟩
theorem Tryz.lays160 : Go.Proofs.Lays.n160 Tryz.prog Tryz.lays160_ren := {
  mixed := by kernel_rfl
  f119 := Tryz.func139.trans (congrArg some (by kernel_rfl))
  f120 := Tryz.func151.trans (congrArg some (by kernel_rfl))
  f137 := Tryz.func138.trans (congrArg some (by kernel_rfl))
  f151 := Tryz.func110.trans (congrArg some (by kernel_rfl))
  f152 := Tryz.func97.trans (congrArg some (by kernel_rfl))
  f160 := Tryz.func35.trans (congrArg some (by kernel_rfl))
  f197 := Tryz.func109.trans (congrArg some (by kernel_rfl))
  f217 := Tryz.func159.trans (congrArg some (by kernel_rfl))
  f224 := Tryz.func140.trans (congrArg some (by kernel_rfl))
  f225 := Tryz.func141.trans (congrArg some (by kernel_rfl))
  f227 := Tryz.func73.trans (congrArg some (by kernel_rfl))
  f228 := Tryz.func99.trans (congrArg some (by kernel_rfl))
  f231 := Tryz.func71.trans (congrArg some (by kernel_rfl))
  f232 := Tryz.func72.trans (congrArg some (by kernel_rfl))
  f233 := Tryz.func74.trans (congrArg some (by kernel_rfl))
  f234 := Tryz.func75.trans (congrArg some (by kernel_rfl))
  f235 := Tryz.func76.trans (congrArg some (by kernel_rfl))
  f236 := Tryz.func77.trans (congrArg some (by kernel_rfl))
  f260 := Tryz.func150.trans (congrArg some (by kernel_rfl))
  f266 := Tryz.func173.trans (congrArg some (by kernel_rfl))
  f271 := Tryz.func111.trans (congrArg some (by kernel_rfl))
  t0 := Tryz.underlying0
  a0 := Tryz.isAgg0
  z0 := Tryz.sizeOf0
  v0 := Tryz.zeroValue0
  t3 := Tryz.underlying3
  a3 := Tryz.isAgg3
  z3 := Tryz.sizeOf3
  v3 := Tryz.zeroValue3
  t4 := Tryz.underlying4
  a4 := Tryz.isAgg4
  z4 := Tryz.sizeOf4
  v4 := Tryz.zeroValue4
  t5 := Tryz.underlying5
  a5 := Tryz.isAgg5
  z5 := Tryz.sizeOf5
  v5 := Tryz.zeroValue5
  t9 := Tryz.underlying9
  a9 := Tryz.isAgg9
  z9 := Tryz.sizeOf9
  v9 := Tryz.zeroValue9
  t21 := Tryz.underlying21
  a21 := Tryz.isAgg21
  z21 := Tryz.sizeOf21
  v21 := Tryz.zeroValue21
  t46 := Tryz.underlying90
  a46 := Tryz.isAgg90
  z46 := Tryz.sizeOf90
  v46 := Tryz.zeroValue90
  t105 := Tryz.underlying105
  a105 := Tryz.isAgg105
  z105 := Tryz.sizeOf105
  v105 := Tryz.zeroValue105
  t116 := Tryz.underlying83
  a116 := Tryz.isAgg83
  z116 := Tryz.sizeOf83
  t117 := Tryz.underlying84
  a117 := Tryz.isAgg84
  z117 := Tryz.sizeOf84
  v117 := Tryz.zeroValue84
  t119 := Tryz.underlying152
  a119 := Tryz.isAgg152
  z119 := Tryz.sizeOf152
  t124 := Tryz.underlying87
  a124 := Tryz.isAgg87
  z124 := Tryz.sizeOf87
  v124 := Tryz.zeroValue87
  t138 := Tryz.underlying154
  a138 := Tryz.isAgg154
  z138 := Tryz.sizeOf154
  v138 := Tryz.zeroValue154
  t139 := Tryz.underlying155
  a139 := Tryz.isAgg155
  z139 := Tryz.sizeOf155
  v139 := Tryz.zeroValue155
  g3 := by kernel_rfl
  g4 := by kernel_rfl }
def Tryz.lays119_ren : Go.Shelf.Ren := ⟨fun | 119 => 139 | n => n, fun | 21 => 21 | 4 => 4 | n => n, fun | n => n⟩
theorem Tryz.lays119 : Go.Proofs.Lays.n119 Tryz.prog Tryz.lays119_ren := {
  mixed := by kernel_rfl
  f119 := Tryz.func139.trans (congrArg some (by kernel_rfl))
  t4 := Tryz.underlying4
  a4 := Tryz.isAgg4
  z4 := Tryz.sizeOf4
  v4 := Tryz.zeroValue4
  t21 := Tryz.underlying21
  a21 := Tryz.isAgg21
  z21 := Tryz.sizeOf21
  v21 := Tryz.zeroValue21 }
/-- utf8.ValidRune: "ValidRune reports whether r can be legally encoded as UTF-8. Code points that are out of range or a surrogate half are illegal.": IT RETURNS 'Lib.validRune r'; the world is as it was. (LAID: no walk: one application.) -/
theorem Tryz.utf8_ValidRune (r : Int) (w : World) :
    Calls Tryz.prog 139 #[.int .i32 r] w fun e w' => e = .returned (.bool (Lib.validRune r)) ∧ w' = w := Any.utf8_ValidRune Tryz.lays119 r w
def Tryz.lays137_ren : Go.Shelf.Ren := ⟨fun | 137 => 138 | 217 => 159 | 266 => 173 | n => n, fun | 9 => 9 | 5 => 5 | 3 => 3 | n => n, fun | n => n⟩
theorem Tryz.lays137 : Go.Proofs.Lays.n137 Tryz.prog Tryz.lays137_ren := {
  mixed := by kernel_rfl
  f137 := Tryz.func138.trans (congrArg some (by kernel_rfl))
  f217 := Tryz.func159.trans (congrArg some (by kernel_rfl))
  f266 := Tryz.func173.trans (congrArg some (by kernel_rfl))
  t3 := Tryz.underlying3
  a3 := Tryz.isAgg3
  z3 := Tryz.sizeOf3
  v3 := Tryz.zeroValue3
  t5 := Tryz.underlying5
  a5 := Tryz.isAgg5
  z5 := Tryz.sizeOf5
  v5 := Tryz.zeroValue5
  t9 := Tryz.underlying9
  a9 := Tryz.isAgg9
  z9 := Tryz.sizeOf9
  v9 := Tryz.zeroValue9 }
open Go.RowKit in
/-- strings.IndexByte: "IndexByte returns the index of the first instance of c in s, or -1 if c is not present in s.": IT RETURNS 'Lib.indexByte s c'; the world is as it was. (LAID: no walk: one application.) -/
theorem Tryz.strings_IndexByte (s : ByteArray) (c : Int) (w : World) :
    Calls Tryz.prog 138 #[.string s, .int .u8 c] w fun e w' => e = .returned (.int .i64 (Lib.indexByte s.data.toList c.toNat.toUInt8)) ∧ w' = w := Any.strings_IndexByte Tryz.lays137 s c w
def Tryz.lays103_ren : Go.Shelf.Ren := ⟨fun | 103 => 131 | 210 => 164 | 206 => 175 | n => n, fun | 9 => 9 | 4 => 4 | 24 => 43 | 3 => 3 | n => n, fun | n => n⟩
theorem Tryz.lays103 : Go.Proofs.Lays.n103 Tryz.prog Tryz.lays103_ren := {
  mixed := by kernel_rfl
  f103 := Tryz.func131.trans (congrArg some (by kernel_rfl))
  f206 := Tryz.func175.trans (congrArg some (by kernel_rfl))
  f210 := Tryz.func164.trans (congrArg some (by kernel_rfl))
  t3 := Tryz.underlying3
  a3 := Tryz.isAgg3
  z3 := Tryz.sizeOf3
  v3 := Tryz.zeroValue3
  t4 := Tryz.underlying4
  a4 := Tryz.isAgg4
  z4 := Tryz.sizeOf4
  v4 := Tryz.zeroValue4
  t9 := Tryz.underlying9
  a9 := Tryz.isAgg9
  z9 := Tryz.sizeOf9
  v9 := Tryz.zeroValue9
  t24 := Tryz.underlying43
  a24 := Tryz.isAgg43
  z24 := Tryz.sizeOf43
  v24 := Tryz.zeroValue43 }
open Go.RowKit in
/-- strings.CutPrefix: "CutPrefix returns s without the provided leading prefix string and reports whether it found the prefix. If s doesn't start with prefix, CutPrefix returns s, false. If prefix is the empty string, CutPrefix returns s, true.": IT RETURNS '(Lib.trimPrefix s p, Lib.hasPrefix s p)'; the world is as it was. (LAID: no walk: one application.) -/
theorem Tryz.strings_CutPrefix (s p : ByteArray) (w : World) :
    Calls Tryz.prog 131 #[.string s, .string p] w fun e w' => e = .returned (.tuple #[.string ⟨(Lib.trimPrefix s.data.toList p.data.toList).toArray⟩, .bool (Lib.hasPrefix s.data.toList p.data.toList)]) ∧ w' = w := Any.strings_CutPrefix Tryz.lays103 s p w
def Tryz.lays104_ren : Go.Shelf.Ren := ⟨fun | 104 => 132 | 211 => 165 | 207 => 176 | n => n, fun | 9 => 9 | 4 => 4 | 24 => 43 | 3 => 3 | n => n, fun | n => n⟩
theorem Tryz.lays104 : Go.Proofs.Lays.n104 Tryz.prog Tryz.lays104_ren := {
  mixed := by kernel_rfl
  f104 := Tryz.func132.trans (congrArg some (by kernel_rfl))
  f207 := Tryz.func176.trans (congrArg some (by kernel_rfl))
  f211 := Tryz.func165.trans (congrArg some (by kernel_rfl))
  t3 := Tryz.underlying3
  a3 := Tryz.isAgg3
  z3 := Tryz.sizeOf3
  v3 := Tryz.zeroValue3
  t4 := Tryz.underlying4
  a4 := Tryz.isAgg4
  z4 := Tryz.sizeOf4
  v4 := Tryz.zeroValue4
  t9 := Tryz.underlying9
  a9 := Tryz.isAgg9
  z9 := Tryz.sizeOf9
  v9 := Tryz.zeroValue9
  t24 := Tryz.underlying43
  a24 := Tryz.isAgg43
  z24 := Tryz.sizeOf43
  v24 := Tryz.zeroValue43 }
open Go.RowKit in
/-- strings.CutSuffix: "CutSuffix returns s without the provided ending suffix string and reports whether it found the suffix. If s doesn't end with suffix, CutSuffix returns s, false. If suffix is the empty string, CutSuffix returns s, true.": IT RETURNS '(Lib.trimSuffix s p, Lib.hasSuffix s p)'; the world is as it was. (LAID: no walk: one application.) -/
theorem Tryz.strings_CutSuffix (s p : ByteArray) (w : World) (hs : s.size ≤ 9223372036854775807) :
    Calls Tryz.prog 132 #[.string s, .string p] w fun e w' => e = .returned (.tuple #[.string ⟨(Lib.trimSuffix s.data.toList p.data.toList).toArray⟩, .bool (Lib.hasSuffix s.data.toList p.data.toList)]) ∧ w' = w := Any.strings_CutSuffix Tryz.lays104 s p w hs
def Tryz.laysM171_ren : Go.Shelf.Ren := ⟨fun | 171 => 34 | 243 => 70 | 246 => 108 | 283 => 146 | 284 => 147 | 285 => 148 | 286 => 149 | 129 => 122 | 317 => 167 | 318 => 168 | 319 => 169 | 320 => 170 | 337 => 177 | 338 => 178 | n => n, fun | 3 => 3 | 9 => 9 | 2 => 2 | 4 => 4 | 171 => 134 | 0 => 0 | 53 => 53 | 37 => 73 | 5 => 5 | 173 => 136 | 212 => 150 | 51 => 116 | 20 => 20 | 213 => 151 | 46 => 90 | 232 => 160 | 233 => 161 | n => n, fun | 17 => 3 | 18 => 6 | 19 => 7 | n => n⟩
theorem Tryz.laysM171 : Go.Proofs.LaysM.n171 Tryz.prog Tryz.laysM171_ren := {
  mixed := by kernel_rfl
  f129 := Tryz.func122.trans (congrArg some (by kernel_rfl))
  f171 := Tryz.func34.trans (congrArg some (by kernel_rfl))
  f243 := Tryz.func70.trans (congrArg some (by kernel_rfl))
  f246 := Tryz.func108.trans (congrArg some (by kernel_rfl))
  f283 := Tryz.func146.trans (congrArg some (by kernel_rfl))
  f284 := Tryz.func147.trans (congrArg some (by kernel_rfl))
  f285 := Tryz.func148.trans (congrArg some (by kernel_rfl))
  f286 := Tryz.func149.trans (congrArg some (by kernel_rfl))
  f317 := Tryz.func167.trans (congrArg some (by kernel_rfl))
  f318 := Tryz.func168.trans (congrArg some (by kernel_rfl))
  f319 := Tryz.func169.trans (congrArg some (by kernel_rfl))
  f320 := Tryz.func170.trans (congrArg some (by kernel_rfl))
  f337 := Tryz.func177.trans (congrArg some (by kernel_rfl))
  f338 := Tryz.func178.trans (congrArg some (by kernel_rfl))
  t0 := Tryz.underlying0
  a0 := Tryz.isAgg0
  z0 := Tryz.sizeOf0
  v0 := Tryz.zeroValue0
  t2 := Tryz.underlying2
  a2 := Tryz.isAgg2
  z2 := Tryz.sizeOf2
  v2 := Tryz.zeroValue2
  t3 := Tryz.underlying3
  a3 := Tryz.isAgg3
  z3 := Tryz.sizeOf3
  v3 := Tryz.zeroValue3
  t4 := Tryz.underlying4
  a4 := Tryz.isAgg4
  z4 := Tryz.sizeOf4
  v4 := Tryz.zeroValue4
  t5 := Tryz.underlying5
  a5 := Tryz.isAgg5
  z5 := Tryz.sizeOf5
  v5 := Tryz.zeroValue5
  t9 := Tryz.underlying9
  a9 := Tryz.isAgg9
  z9 := Tryz.sizeOf9
  v9 := Tryz.zeroValue9
  t20 := Tryz.underlying20
  a20 := Tryz.isAgg20
  z20 := Tryz.sizeOf20
  v20 := Tryz.zeroValue20
  t37 := Tryz.underlying73
  a37 := Tryz.isAgg73
  z37 := Tryz.sizeOf73
  v37 := Tryz.zeroValue73
  t46 := Tryz.underlying90
  a46 := Tryz.isAgg90
  z46 := Tryz.sizeOf90
  v46 := Tryz.zeroValue90
  t51 := Tryz.underlying116
  a51 := Tryz.isAgg116
  z51 := Tryz.sizeOf116
  v51 := Tryz.zeroValue116
  t53 := Tryz.underlying53
  a53 := Tryz.isAgg53
  z53 := Tryz.sizeOf53
  v53 := Tryz.zeroValue53
  t171 := Tryz.underlying134
  a171 := Tryz.isAgg134
  z171 := Tryz.sizeOf134
  v171 := Tryz.zeroValue134
  t173 := Tryz.underlying136
  a173 := Tryz.isAgg136
  z173 := Tryz.sizeOf136
  v173 := Tryz.zeroValue136
  t212 := Tryz.underlying150
  a212 := Tryz.isAgg150
  z212 := Tryz.sizeOf150
  v212 := Tryz.zeroValue150
  t213 := Tryz.underlying151
  a213 := Tryz.isAgg151
  z213 := Tryz.sizeOf151
  t232 := Tryz.underlying160
  a232 := Tryz.isAgg160
  z232 := Tryz.sizeOf160
  v232 := Tryz.zeroValue160
  t233 := Tryz.underlying161
  a233 := Tryz.isAgg161
  z233 := Tryz.sizeOf161
  v233 := Tryz.zeroValue161
  g17 := by kernel_rfl
  g18 := by kernel_rfl
  g19 := by kernel_rfl
  i0 := by kernel_rfl
  i2 := by kernel_rfl
  i3 := by kernel_rfl
  i4 := by kernel_rfl
  i5 := by kernel_rfl
  i9 := by kernel_rfl
  i20 := by kernel_rfl
  i37 := by kernel_rfl
  i46 := by kernel_rfl
  i51 := by kernel_rfl
  i53 := by kernel_rfl
  i171 := by kernel_rfl
  i173 := by kernel_rfl
  i212 := by kernel_rfl
  i232 := by kernel_rfl
  i233 := by kernel_rfl
  m17 := by kernel_rfl
  m18 := by kernel_rfl
  m19 := by kernel_rfl }
open Go.RowKit Go.Sort Go.Lib in
/-- strconv.Itoa: "Itoa is equivalent to FormatInt(int64(i), 10).": i's DECIMAL NUMERAL ('Lib.itoa': a '-' where i is negative, then the digits), FOR EVERY int. The world behind the call: the world before it, new blocks behind the heap (the library's 'var a [24]byte'), draws. (LAID: no walk: one application.) -/
theorem Tryz.strconv_Itoa (n : Int) (h0 : -9223372036854775808 ≤ n) (h1 : n ≤ 9223372036854775807) (w : World) (htab : Lib.TabIs Tryz.prog w "internal/strconv.uint64pow10" .u64 Lib.pow10Tab) :
    Calls Tryz.prog 34 #[.int .i64 n] w fun e w' => e = .returned (.string ⟨(Lib.itoa n).toArray⟩) ∧ ∃ k os, w' = grow (w.drewN k) os := Any.strconv_Itoa Tryz.laysM171 n h0 h1 w htab
def Tryz.laysPu14_ren : Go.Shelf.Ren := ⟨fun | 14 => 33 | 16 => 68 | 17 => 69 | 19 => 102 | 20 => 103 | 21 => 104 | 22 => 105 | 23 => 106 | 24 => 107 | 25 => 144 | 27 => 34 | 26 => 145 | 28 => 70 | 29 => 108 | 30 => 146 | 31 => 147 | 32 => 148 | 33 => 149 | 35 => 122 | 34 => 167 | 36 => 168 | 37 => 169 | 38 => 170 | 39 => 177 | 40 => 178 | n => n, fun | 9 => 9 | 3 => 3 | 22 => 53 | 24 => 55 | 25 => 56 | 4 => 4 | 34 => 99 | 5 => 5 | 36 => 90 | 37 => 73 | 0 => 0 | 39 => 101 | 21 => 21 | 44 => 132 | 47 => 98 | 50 => 148 | 48 => 146 | 2 => 2 | 52 => 134 | 55 => 136 | 59 => 150 | 60 => 116 | 20 => 20 | 61 => 151 | 65 => 160 | 66 => 161 | 67 => 79 | n => n, fun | 0 => 0 | 1 => 1 | 2 => 3 | 3 => 6 | 4 => 7 | n => n⟩
theorem Tryz.laysPu14 : Go.Proofs.LaysPu.n14 Tryz.prog Tryz.laysPu14_ren := {
  mixed := by kernel_rfl
  f14 := Tryz.func33.trans (congrArg some (by kernel_rfl))
  f16 := Tryz.func68.trans (congrArg some (by kernel_rfl))
  f17 := Tryz.func69.trans (congrArg some (by kernel_rfl))
  f19 := Tryz.func102.trans (congrArg some (by kernel_rfl))
  f20 := Tryz.func103.trans (congrArg some (by kernel_rfl))
  f21 := Tryz.func104.trans (congrArg some (by kernel_rfl))
  f22 := Tryz.func105.trans (congrArg some (by kernel_rfl))
  f23 := Tryz.func106.trans (congrArg some (by kernel_rfl))
  f24 := Tryz.func107.trans (congrArg some (by kernel_rfl))
  f25 := Tryz.func144.trans (congrArg some (by kernel_rfl))
  f26 := Tryz.func145.trans (congrArg some (by kernel_rfl))
  f27 := Tryz.func34.trans (congrArg some (by kernel_rfl))
  f28 := Tryz.func70.trans (congrArg some (by kernel_rfl))
  f29 := Tryz.func108.trans (congrArg some (by kernel_rfl))
  f30 := Tryz.func146.trans (congrArg some (by kernel_rfl))
  f31 := Tryz.func147.trans (congrArg some (by kernel_rfl))
  f32 := Tryz.func148.trans (congrArg some (by kernel_rfl))
  f33 := Tryz.func149.trans (congrArg some (by kernel_rfl))
  f34 := Tryz.func167.trans (congrArg some (by kernel_rfl))
  f35 := Tryz.func122.trans (congrArg some (by kernel_rfl))
  f36 := Tryz.func168.trans (congrArg some (by kernel_rfl))
  f37 := Tryz.func169.trans (congrArg some (by kernel_rfl))
  f38 := Tryz.func170.trans (congrArg some (by kernel_rfl))
  f39 := Tryz.func177.trans (congrArg some (by kernel_rfl))
  f40 := Tryz.func178.trans (congrArg some (by kernel_rfl))
  t0 := Tryz.underlying0
  a0 := Tryz.isAgg0
  z0 := Tryz.sizeOf0
  v0 := Tryz.zeroValue0
  i0 := by kernel_rfl
  t2 := Tryz.underlying2
  a2 := Tryz.isAgg2
  z2 := Tryz.sizeOf2
  v2 := Tryz.zeroValue2
  i2 := by kernel_rfl
  t3 := Tryz.underlying3
  a3 := Tryz.isAgg3
  z3 := Tryz.sizeOf3
  v3 := Tryz.zeroValue3
  i3 := by kernel_rfl
  t4 := Tryz.underlying4
  a4 := Tryz.isAgg4
  z4 := Tryz.sizeOf4
  v4 := Tryz.zeroValue4
  i4 := by kernel_rfl
  t5 := Tryz.underlying5
  a5 := Tryz.isAgg5
  z5 := Tryz.sizeOf5
  v5 := Tryz.zeroValue5
  i5 := by kernel_rfl
  t9 := Tryz.underlying9
  a9 := Tryz.isAgg9
  z9 := Tryz.sizeOf9
  v9 := Tryz.zeroValue9
  i9 := by kernel_rfl
  t20 := Tryz.underlying20
  a20 := Tryz.isAgg20
  z20 := Tryz.sizeOf20
  v20 := Tryz.zeroValue20
  i20 := by kernel_rfl
  t21 := Tryz.underlying21
  a21 := Tryz.isAgg21
  z21 := Tryz.sizeOf21
  v21 := Tryz.zeroValue21
  i21 := by kernel_rfl
  t22 := Tryz.underlying53
  a22 := Tryz.isAgg53
  z22 := Tryz.sizeOf53
  v22 := Tryz.zeroValue53
  i22 := by kernel_rfl
  t24 := Tryz.underlying55
  a24 := Tryz.isAgg55
  z24 := Tryz.sizeOf55
  v24 := Tryz.zeroValue55
  i24 := by kernel_rfl
  t25 := Tryz.underlying56
  a25 := Tryz.isAgg56
  z25 := Tryz.sizeOf56
  v25 := Tryz.zeroValue56
  i25 := by kernel_rfl
  t34 := Tryz.underlying99
  a34 := Tryz.isAgg99
  z34 := Tryz.sizeOf99
  v34 := Tryz.zeroValue99
  i34 := by kernel_rfl
  c34 := by kernel_rfl
  t36 := Tryz.underlying90
  a36 := Tryz.isAgg90
  z36 := Tryz.sizeOf90
  v36 := Tryz.zeroValue90
  i36 := by kernel_rfl
  t37 := Tryz.underlying73
  a37 := Tryz.isAgg73
  z37 := Tryz.sizeOf73
  v37 := Tryz.zeroValue73
  i37 := by kernel_rfl
  t39 := Tryz.underlying101
  a39 := Tryz.isAgg101
  z39 := Tryz.sizeOf101
  v39 := Tryz.zeroValue101
  i39 := by kernel_rfl
  t44 := Tryz.underlying132
  a44 := Tryz.isAgg132
  z44 := Tryz.sizeOf132
  v44 := Tryz.zeroValue132
  i44 := by kernel_rfl
  t47 := Tryz.underlying98
  a47 := Tryz.isAgg98
  z47 := Tryz.sizeOf98
  v47 := Tryz.zeroValue98
  i47 := by kernel_rfl
  t48 := Tryz.underlying146
  a48 := Tryz.isAgg146
  z48 := Tryz.sizeOf146
  v48 := Tryz.zeroValue146
  i48 := by kernel_rfl
  t50 := Tryz.underlying148
  a50 := Tryz.isAgg148
  z50 := Tryz.sizeOf148
  v50 := Tryz.zeroValue148
  i50 := by kernel_rfl
  t52 := Tryz.underlying134
  a52 := Tryz.isAgg134
  z52 := Tryz.sizeOf134
  v52 := Tryz.zeroValue134
  i52 := by kernel_rfl
  t55 := Tryz.underlying136
  a55 := Tryz.isAgg136
  z55 := Tryz.sizeOf136
  v55 := Tryz.zeroValue136
  i55 := by kernel_rfl
  t59 := Tryz.underlying150
  a59 := Tryz.isAgg150
  z59 := Tryz.sizeOf150
  v59 := Tryz.zeroValue150
  i59 := by kernel_rfl
  t60 := Tryz.underlying116
  a60 := Tryz.isAgg116
  z60 := Tryz.sizeOf116
  v60 := Tryz.zeroValue116
  i60 := by kernel_rfl
  t61 := Tryz.underlying151
  a61 := Tryz.isAgg151
  z61 := Tryz.sizeOf151
  t65 := Tryz.underlying160
  a65 := Tryz.isAgg160
  z65 := Tryz.sizeOf160
  v65 := Tryz.zeroValue160
  i65 := by kernel_rfl
  t66 := Tryz.underlying161
  a66 := Tryz.isAgg161
  z66 := Tryz.sizeOf161
  v66 := Tryz.zeroValue161
  i66 := by kernel_rfl
  t67 := Tryz.underlying79
  a67 := Tryz.isAgg79
  z67 := Tryz.sizeOf79
  v67 := Tryz.zeroValue79
  i67 := by kernel_rfl
  g0 := by kernel_rfl
  m0 := by kernel_rfl
  g1 := by kernel_rfl
  m1 := by kernel_rfl
  g2 := by kernel_rfl
  m2 := by kernel_rfl
  g3 := by kernel_rfl
  m3 := by kernel_rfl
  g4 := by kernel_rfl
  m4 := by kernel_rfl }
open Go.RowKit in
/-- strconv.ParseUint(s, 10, 32), AT EVERY STRING THAT SPELLS A uint32 ('Lib.parseUintB 32 s.data.toList = .ok u'): u, AND NO ERROR. (LAID: no walk: one application.) -/
theorem Tryz.strconv_ParseUint_10_at32_ok (s : ByteArray) (hmax : s.size ≤ 9223372036854775806) (u : Nat) (h : Lib.parseUintB 32 s.data.toList = .ok u) (w : World) :
    Calls Tryz.prog 33 #[.string s, .int .i64 10, .int .i64 32] w fun e w' => e = .returned (.tuple #[.int .u64 u, .nilIface]) ∧ (w' = w ∨ w' = Lib.bytesWorld w 5 s) := Any.strconv_ParseUint_10_at32_ok Tryz.laysPu14 s hmax u h w
open Go.RowKit in
/-- strconv.ParseUint(s, 10, 32), AT EVERY NUMERAL THAT NO uint32 HOLDS: THE GREATEST uint32, AND AN ERROR THAT IS NOT nil: a *NumError in a new block N: {Func: "ParseUint", Num: s's bytes, Err: what the variable ErrRange holds}. Of what was there nothing has turned. (LAID: no walk: one application.) -/
theorem Tryz.strconv_ParseUint_10_at32_range (s : ByteArray) (hlim : s.size ≤ 281474976710656) (h : Lib.parseUintB 32 s.data.toList = .range) (ev : Value) (w : World) (hv : w.cell? ⟨1, 0, none⟩ = some ev) (hev : ev = .nilIface ∨ ∃ te pe, ev = .iface te pe) :
    Calls Tryz.prog 33 #[.string s, .int .i64 10, .int .i64 32] w fun e w' => ∃ N, e = .returned (.tuple #[.int .u64 4294967295, .iface 101 (.pointer (some ⟨N, 0, none⟩))]) ∧ w.heap.size ≤ N ∧ w'.heap[N]? = some (.cells #[.string ⟨#[80, 97, 114, 115, 101, 85, 105, 110, 116]⟩, .string s, ev] 132 (0, 0)) ∧ Below w.heap.size w w' := Any.strconv_ParseUint_10_at32_range Tryz.laysPu14 s hlim h ev w hv hev
def Tryz.lays144_ren : Go.Shelf.Ren := ⟨fun | 144 => 40 | 143 => 82 | 219 => 124 | 217 => 159 | 225 => 141 | 224 => 140 | 267 => 160 | 266 => 173 | 314 => 174 | n => n, fun | 9 => 9 | 4 => 4 | 3 => 3 | 5 => 5 | 46 => 90 | 146 => 158 | 51 => 116 | n => n, fun | 1 => 2 | n => n⟩
theorem Tryz.lays144 : Go.Proofs.Lays.n144 Tryz.prog Tryz.lays144_ren := {
  mixed := by kernel_rfl
  f143 := Tryz.func82.trans (congrArg some (by kernel_rfl))
  f144 := Tryz.func40.trans (congrArg some (by kernel_rfl))
  f217 := Tryz.func159.trans (congrArg some (by kernel_rfl))
  f219 := Tryz.func124.trans (congrArg some (by kernel_rfl))
  f224 := Tryz.func140.trans (congrArg some (by kernel_rfl))
  f225 := Tryz.func141.trans (congrArg some (by kernel_rfl))
  f266 := Tryz.func173.trans (congrArg some (by kernel_rfl))
  f267 := Tryz.func160.trans (congrArg some (by kernel_rfl))
  f314 := Tryz.func174.trans (congrArg some (by kernel_rfl))
  t3 := Tryz.underlying3
  a3 := Tryz.isAgg3
  z3 := Tryz.sizeOf3
  v3 := Tryz.zeroValue3
  t4 := Tryz.underlying4
  a4 := Tryz.isAgg4
  z4 := Tryz.sizeOf4
  v4 := Tryz.zeroValue4
  t5 := Tryz.underlying5
  a5 := Tryz.isAgg5
  z5 := Tryz.sizeOf5
  v5 := Tryz.zeroValue5
  t9 := Tryz.underlying9
  a9 := Tryz.isAgg9
  z9 := Tryz.sizeOf9
  v9 := Tryz.zeroValue9
  t46 := Tryz.underlying90
  a46 := Tryz.isAgg90
  z46 := Tryz.sizeOf90
  v46 := Tryz.zeroValue90
  t51 := Tryz.underlying116
  a51 := Tryz.isAgg116
  z51 := Tryz.sizeOf116
  v51 := Tryz.zeroValue116
  t146 := Tryz.underlying158
  a146 := Tryz.isAgg158
  z146 := Tryz.sizeOf158
  v146 := Tryz.zeroValue158
  g1 := by kernel_rfl }
open Go.RowKit Go.Lib in
/-- strings.Contains: "Contains reports whether substr is within s.": IT RETURNS 'Lib.contains s substr'; the world is as it was. (LAID: no walk: one application.) -/
theorem Tryz.strings_Contains (s sub : ByteArray) (m : Int) (w : World) (hs : s.size < 4294967281) (hm : w.cell? ⟨2, 0, none⟩ = some (.int .i64 m)) :
    Calls Tryz.prog 40 #[.string s, .string sub] w fun e w' => e = .returned (.bool (Lib.contains s.data.toList sub.data.toList)) ∧ w' = w := Any.strings_Contains Tryz.lays144 s sub m w hs hm
def Tryz.lays145_ren : Go.Shelf.Ren := ⟨fun | 145 => 129 | 220 => 163 | 219 => 124 | 217 => 159 | 225 => 141 | 224 => 140 | 267 => 160 | 266 => 173 | 314 => 174 | n => n, fun | 9 => 9 | 4 => 4 | 59 => 122 | 3 => 3 | 5 => 5 | 46 => 90 | 146 => 158 | 51 => 116 | n => n, fun | 1 => 2 | n => n⟩
theorem Tryz.lays145 : Go.Proofs.Lays.n145 Tryz.prog Tryz.lays145_ren := {
  mixed := by kernel_rfl
  f145 := Tryz.func129.trans (congrArg some (by kernel_rfl))
  f217 := Tryz.func159.trans (congrArg some (by kernel_rfl))
  f219 := Tryz.func124.trans (congrArg some (by kernel_rfl))
  f220 := Tryz.func163.trans (congrArg some (by kernel_rfl))
  f224 := Tryz.func140.trans (congrArg some (by kernel_rfl))
  f225 := Tryz.func141.trans (congrArg some (by kernel_rfl))
  f266 := Tryz.func173.trans (congrArg some (by kernel_rfl))
  f267 := Tryz.func160.trans (congrArg some (by kernel_rfl))
  f314 := Tryz.func174.trans (congrArg some (by kernel_rfl))
  t3 := Tryz.underlying3
  a3 := Tryz.isAgg3
  z3 := Tryz.sizeOf3
  v3 := Tryz.zeroValue3
  t4 := Tryz.underlying4
  a4 := Tryz.isAgg4
  z4 := Tryz.sizeOf4
  v4 := Tryz.zeroValue4
  t5 := Tryz.underlying5
  a5 := Tryz.isAgg5
  z5 := Tryz.sizeOf5
  v5 := Tryz.zeroValue5
  t9 := Tryz.underlying9
  a9 := Tryz.isAgg9
  z9 := Tryz.sizeOf9
  v9 := Tryz.zeroValue9
  t46 := Tryz.underlying90
  a46 := Tryz.isAgg90
  z46 := Tryz.sizeOf90
  v46 := Tryz.zeroValue90
  t51 := Tryz.underlying116
  a51 := Tryz.isAgg116
  z51 := Tryz.sizeOf116
  v51 := Tryz.zeroValue116
  t59 := Tryz.underlying122
  a59 := Tryz.isAgg122
  z59 := Tryz.sizeOf122
  v59 := Tryz.zeroValue122
  t146 := Tryz.underlying158
  a146 := Tryz.isAgg158
  z146 := Tryz.sizeOf158
  v146 := Tryz.zeroValue158
  g1 := by kernel_rfl }
open Go.RowKit Go.Lib in
/-- strings.Cut: "Cut slices s around the first instance of sep, returning the text before and after sep. The found result reports whether sep appears in s. If sep does not appear in s, cut returns s, "", false.": IT RETURNS 'Lib.cut s sep'; the world is as it was but for the count of draws. (LAID: no walk: one application.) -/
theorem Tryz.strings_Cut (s sep : ByteArray) (m : Int) (w : World) (hs : s.size < 4294967281) (hm : w.cell? ⟨2, 0, none⟩ = some (.int .i64 m)) :
    Calls Tryz.prog 129 #[.string s, .string sep] w fun e w' => e = .returned (.tuple #[.string ⟨(Lib.cut s.data.toList sep.data.toList).1.toArray⟩, .string ⟨(Lib.cut s.data.toList sep.data.toList).2.1.toArray⟩, .bool (Lib.cut s.data.toList sep.data.toList).2.2]) ∧ ∃ n, w' = w.drewN n := Any.strings_Cut Tryz.lays145 s sep m w hs hm
def Tryz.lays138_ren : Go.Shelf.Ren := ⟨fun | 138 => 128 | 195 => 161 | 218 => 162 | 143 => 82 | 219 => 124 | 217 => 159 | 225 => 141 | 224 => 140 | 267 => 160 | 266 => 173 | 314 => 174 | n => n, fun | 9 => 9 | 3 => 3 | 4 => 4 | 5 => 5 | 0 => 0 | 46 => 90 | 146 => 158 | 51 => 116 | n => n, fun | 1 => 2 | n => n⟩
theorem Tryz.lays138 : Go.Proofs.Lays.n138 Tryz.prog Tryz.lays138_ren := {
  mixed := by kernel_rfl
  f138 := Tryz.func128.trans (congrArg some (by kernel_rfl))
  f143 := Tryz.func82.trans (congrArg some (by kernel_rfl))
  f195 := Tryz.func161.trans (congrArg some (by kernel_rfl))
  f217 := Tryz.func159.trans (congrArg some (by kernel_rfl))
  f218 := Tryz.func162.trans (congrArg some (by kernel_rfl))
  f219 := Tryz.func124.trans (congrArg some (by kernel_rfl))
  f224 := Tryz.func140.trans (congrArg some (by kernel_rfl))
  f225 := Tryz.func141.trans (congrArg some (by kernel_rfl))
  f266 := Tryz.func173.trans (congrArg some (by kernel_rfl))
  f267 := Tryz.func160.trans (congrArg some (by kernel_rfl))
  f314 := Tryz.func174.trans (congrArg some (by kernel_rfl))
  t0 := Tryz.underlying0
  a0 := Tryz.isAgg0
  z0 := Tryz.sizeOf0
  v0 := Tryz.zeroValue0
  t3 := Tryz.underlying3
  a3 := Tryz.isAgg3
  z3 := Tryz.sizeOf3
  v3 := Tryz.zeroValue3
  t4 := Tryz.underlying4
  a4 := Tryz.isAgg4
  z4 := Tryz.sizeOf4
  v4 := Tryz.zeroValue4
  t5 := Tryz.underlying5
  a5 := Tryz.isAgg5
  z5 := Tryz.sizeOf5
  v5 := Tryz.zeroValue5
  t9 := Tryz.underlying9
  a9 := Tryz.isAgg9
  z9 := Tryz.sizeOf9
  v9 := Tryz.zeroValue9
  t46 := Tryz.underlying90
  a46 := Tryz.isAgg90
  z46 := Tryz.sizeOf90
  v46 := Tryz.zeroValue90
  t51 := Tryz.underlying116
  a51 := Tryz.isAgg116
  z51 := Tryz.sizeOf116
  v51 := Tryz.zeroValue116
  t146 := Tryz.underlying158
  a146 := Tryz.isAgg158
  z146 := Tryz.sizeOf158
  v146 := Tryz.zeroValue158
  g1 := by kernel_rfl }
open Go.RowKit Go.Lib in
/-- strings.Count AT A substr OF ONE BYTE ('hp'): "Count counts the number of non-overlapping instances of substr in s.": IT RETURNS 'Lib.countByte s (that byte)'; the world is as it was. ✋ NO CONTRACT HERE YET at an empty substr (utf8.RuneCountInString) or at a longer one (a loop over strings.Index). (LAID: no walk: one application.) -/
theorem Tryz.strings_Count_one (s : ByteArray) (c : UInt8) (w : World) :
    Calls Tryz.prog 128 #[.string s, .string ⟨#[c]⟩] w fun e w' => e = .returned (.int .i64 (Lib.countByte s.data.toList c)) ∧ w' = w := Any.strings_Count_one Tryz.lays138 s c w
def Tryz.laysM144_ren : Go.Shelf.Ren := ⟨fun | 144 => 40 | 143 => 82 | 219 => 124 | 217 => 159 | 225 => 141 | 224 => 140 | 267 => 160 | 266 => 173 | 314 => 174 | n => n, fun | 9 => 9 | 4 => 4 | 3 => 3 | 5 => 5 | 46 => 90 | 146 => 158 | 51 => 116 | n => n, fun | 1 => 2 | n => n⟩
theorem Tryz.laysM144 : Go.Proofs.LaysM.n144 Tryz.prog Tryz.laysM144_ren := {
  mixed := by kernel_rfl
  f143 := Tryz.func82.trans (congrArg some (by kernel_rfl))
  f144 := Tryz.func40.trans (congrArg some (by kernel_rfl))
  f217 := Tryz.func159.trans (congrArg some (by kernel_rfl))
  f219 := Tryz.func124.trans (congrArg some (by kernel_rfl))
  f224 := Tryz.func140.trans (congrArg some (by kernel_rfl))
  f225 := Tryz.func141.trans (congrArg some (by kernel_rfl))
  f266 := Tryz.func173.trans (congrArg some (by kernel_rfl))
  f267 := Tryz.func160.trans (congrArg some (by kernel_rfl))
  f314 := Tryz.func174.trans (congrArg some (by kernel_rfl))
  t3 := Tryz.underlying3
  a3 := Tryz.isAgg3
  z3 := Tryz.sizeOf3
  v3 := Tryz.zeroValue3
  t4 := Tryz.underlying4
  a4 := Tryz.isAgg4
  z4 := Tryz.sizeOf4
  v4 := Tryz.zeroValue4
  t5 := Tryz.underlying5
  a5 := Tryz.isAgg5
  z5 := Tryz.sizeOf5
  v5 := Tryz.zeroValue5
  t9 := Tryz.underlying9
  a9 := Tryz.isAgg9
  z9 := Tryz.sizeOf9
  v9 := Tryz.zeroValue9
  t46 := Tryz.underlying90
  a46 := Tryz.isAgg90
  z46 := Tryz.sizeOf90
  v46 := Tryz.zeroValue90
  t51 := Tryz.underlying116
  a51 := Tryz.isAgg116
  z51 := Tryz.sizeOf116
  v51 := Tryz.zeroValue116
  t146 := Tryz.underlying158
  a146 := Tryz.isAgg158
  z146 := Tryz.sizeOf158
  v146 := Tryz.zeroValue158
  g1 := by kernel_rfl
  i3 := by kernel_rfl
  i4 := by kernel_rfl
  i5 := by kernel_rfl
  i9 := by kernel_rfl
  i46 := by kernel_rfl
  i51 := by kernel_rfl
  i146 := by kernel_rfl
  m1 := by kernel_rfl
  s1_3 := fun w h => Go.Proofs.cell_of_shapedOpen_int (zero := #[.int .i64 0]) (t := 3) h (of_decide_eq_true (by kernel_rfl)) (by kernel_rfl) rfl (by kernel_rfl) (by kernel_rfl) Tryz.underlying3 }
open Go.RowKit Go.Lib in
theorem Tryz.strings_Contains_shaped (s sub : ByteArray) (w : World) (h : w.ShapedOpen Tryz.prog) (hs : s.size < 4294967281) :
    Calls Tryz.prog 40 #[.string s, .string sub] w fun e w' => e = .returned (.bool (Lib.contains s.data.toList sub.data.toList)) ∧ w' = w := Any.strings_Contains_shaped Tryz.laysM144 s sub w h hs
def Tryz.lays190_ren : Go.Shelf.Ren := ⟨fun | 190 => 36 | 125 => 79 | 258 => 78 | 128 => 121 | 129 => 122 | 302 => 112 | 303 => 113 | 304 => 114 | 305 => 115 | 306 => 116 | 307 => 117 | 308 => 118 | 309 => 119 | 310 => 120 | 333 => 152 | 329 => 153 | 330 => 154 | 334 => 155 | 335 => 156 | 336 => 157 | 344 => 171 | n => n, fun | 31 => 22 | 9 => 9 | 3 => 3 | 46 => 90 | 0 => 0 | 51 => 116 | 53 => 53 | 4 => 4 | 183 => 110 | 182 => 109 | 131 => 36 | 5 => 5 | 218 => 138 | 222 => 142 | 228 => 156 | 229 => 144 | n => n, fun | n => n⟩
theorem Tryz.lays190 : Go.Proofs.Lays.n190 Tryz.prog Tryz.lays190_ren := {
  mixed := by kernel_rfl
  f125 := Tryz.func79.trans (congrArg some (by kernel_rfl))
  f128 := Tryz.func121.trans (congrArg some (by kernel_rfl))
  f129 := Tryz.func122.trans (congrArg some (by kernel_rfl))
  f190 := Tryz.func36.trans (congrArg some (by kernel_rfl))
  f258 := Tryz.func78.trans (congrArg some (by kernel_rfl))
  f302 := Tryz.func112.trans (congrArg some (by kernel_rfl))
  f303 := Tryz.func113.trans (congrArg some (by kernel_rfl))
  f304 := Tryz.func114.trans (congrArg some (by kernel_rfl))
  f305 := Tryz.func115.trans (congrArg some (by kernel_rfl))
  f306 := Tryz.func116.trans (congrArg some (by kernel_rfl))
  f307 := Tryz.func117.trans (congrArg some (by kernel_rfl))
  f308 := Tryz.func118.trans (congrArg some (by kernel_rfl))
  f309 := Tryz.func119.trans (congrArg some (by kernel_rfl))
  f310 := Tryz.func120.trans (congrArg some (by kernel_rfl))
  f329 := Tryz.func153.trans (congrArg some (by kernel_rfl))
  f330 := Tryz.func154.trans (congrArg some (by kernel_rfl))
  f333 := Tryz.func152.trans (congrArg some (by kernel_rfl))
  f334 := Tryz.func155.trans (congrArg some (by kernel_rfl))
  f335 := Tryz.func156.trans (congrArg some (by kernel_rfl))
  f336 := Tryz.func157.trans (congrArg some (by kernel_rfl))
  f344 := Tryz.func171.trans (congrArg some (by kernel_rfl))
  t0 := Tryz.underlying0
  a0 := Tryz.isAgg0
  z0 := Tryz.sizeOf0
  v0 := Tryz.zeroValue0
  t3 := Tryz.underlying3
  a3 := Tryz.isAgg3
  z3 := Tryz.sizeOf3
  v3 := Tryz.zeroValue3
  t4 := Tryz.underlying4
  a4 := Tryz.isAgg4
  z4 := Tryz.sizeOf4
  v4 := Tryz.zeroValue4
  t5 := Tryz.underlying5
  a5 := Tryz.isAgg5
  z5 := Tryz.sizeOf5
  v5 := Tryz.zeroValue5
  t9 := Tryz.underlying9
  a9 := Tryz.isAgg9
  z9 := Tryz.sizeOf9
  v9 := Tryz.zeroValue9
  t31 := Tryz.underlying22
  a31 := Tryz.isAgg22
  z31 := Tryz.sizeOf22
  v31 := Tryz.zeroValue22
  t46 := Tryz.underlying90
  a46 := Tryz.isAgg90
  z46 := Tryz.sizeOf90
  v46 := Tryz.zeroValue90
  t51 := Tryz.underlying116
  a51 := Tryz.isAgg116
  z51 := Tryz.sizeOf116
  v51 := Tryz.zeroValue116
  t53 := Tryz.underlying53
  a53 := Tryz.isAgg53
  z53 := Tryz.sizeOf53
  v53 := Tryz.zeroValue53
  t131 := Tryz.underlying36
  a131 := Tryz.isAgg36
  z131 := Tryz.sizeOf36
  v131 := Tryz.zeroValue36
  t182 := Tryz.underlying109
  a182 := Tryz.isAgg109
  z182 := Tryz.sizeOf109
  v182 := Tryz.zeroValue109
  t183 := Tryz.underlying110
  a183 := Tryz.isAgg110
  z183 := Tryz.sizeOf110
  v183 := Tryz.zeroValue110
  t218 := Tryz.underlying138
  a218 := Tryz.isAgg138
  z218 := Tryz.sizeOf138
  v218 := Tryz.zeroValue138
  t222 := Tryz.underlying142
  a222 := Tryz.isAgg142
  z222 := Tryz.sizeOf142
  v222 := Tryz.zeroValue142
  t228 := Tryz.underlying156
  a228 := Tryz.isAgg156
  z228 := Tryz.sizeOf156
  v228 := Tryz.zeroValue156
  t229 := Tryz.underlying144
  a229 := Tryz.isAgg144
  z229 := Tryz.sizeOf144
  v229 := Tryz.zeroValue144 }
open Go.Sort Go.RowKit in
theorem Tryz.slices_Sort_string (blk off cap : Nat) (ss : List (List UInt8)) (w : World) (hH : Holds encStr w blk off ss.toArray) (hblk : blk < w.heap.size) (hsz : ss.length < 4611686018427387904) :
    Calls Tryz.prog 36 #[.slice (some ⟨blk, off, none⟩) ss.length cap] w fun e w' =>
      e = .returned (.tuple #[]) ∧ ∃ n os, w' = grow (putRow encStr (Sort.ahead w n) blk off (ss.mergeSort fun x y => decide (x ≤ y)).toArray) os := Any.slices_Sort_string Tryz.lays190 blk off cap ss w hH hblk hsz
def Tryz.lays149_ren : Go.Shelf.Ren := ⟨fun | 149 => 158 | 222 => 172 | n => n, fun | 9 => 9 | 5 => 5 | 3 => 3 | 4 => 4 | n => n, fun | n => n⟩
theorem Tryz.lays149 : Go.Proofs.Lays.n149 Tryz.prog Tryz.lays149_ren := {
  mixed := by kernel_rfl
  f149 := Tryz.func158.trans (congrArg some (by kernel_rfl))
  f222 := Tryz.func172.trans (congrArg some (by kernel_rfl))
  t3 := Tryz.underlying3
  a3 := Tryz.isAgg3
  z3 := Tryz.sizeOf3
  v3 := Tryz.zeroValue3
  t4 := Tryz.underlying4
  a4 := Tryz.isAgg4
  z4 := Tryz.sizeOf4
  v4 := Tryz.zeroValue4
  t5 := Tryz.underlying5
  a5 := Tryz.isAgg5
  z5 := Tryz.sizeOf5
  v5 := Tryz.zeroValue5
  t9 := Tryz.underlying9
  a9 := Tryz.isAgg9
  z9 := Tryz.sizeOf9
  v9 := Tryz.zeroValue9 }
open Go.RowKit Go.Lib in
/-- strings.LastIndexByte: "LastIndexByte returns the index of the last instance of c in s, or -1 if c is not present in s." (LAID: no walk: one application.) -/
theorem Tryz.strings_LastIndexByte (s : ByteArray) (c : Int) (hs : s.size < 4611686018427387904) (w : World) :
    Calls Tryz.prog 158 #[.string s, .int .u8 c] w fun e w' => e = .returned (.int .i64 (Lib.lastIndexByte s c)) ∧ w' = w := Any.strings_LastIndexByte Tryz.lays149 s c hs w
def Tryz.lays155_ren : Go.Shelf.Ren := ⟨fun | 155 => 50 | 154 => 88 | 138 => 128 | 165 => 65 | 143 => 82 | 166 => 66 | 197 => 109 | 169 => 67 | 195 => 161 | 218 => 162 | 240 => 100 | 241 => 101 | 219 => 124 | 260 => 150 | 276 => 142 | 277 => 143 | 217 => 159 | 225 => 141 | 224 => 140 | 267 => 160 | 266 => 173 | 314 => 174 | n => n, fun | 9 => 9 | 3 => 3 | 4 => 4 | 72 => 75 | 0 => 0 | 76 => 77 | 105 => 105 | 21 => 21 | 5 => 5 | 70 => 72 | 20 => 20 | 37 => 73 | 75 => 55 | 127 => 98 | 164 => 128 | 46 => 90 | 119 => 152 | 139 => 155 | 138 => 154 | 146 => 158 | 51 => 116 | 80 => 79 | n => n, fun | 1 => 2 | 3 => 4 | 4 => 5 | n => n⟩
theorem Tryz.lays155 : Go.Proofs.Lays.n155 Tryz.prog Tryz.lays155_ren := {
  mixed := by kernel_rfl
  f138 := Tryz.func128.trans (congrArg some (by kernel_rfl))
  f143 := Tryz.func82.trans (congrArg some (by kernel_rfl))
  f154 := Tryz.func88.trans (congrArg some (by kernel_rfl))
  f155 := Tryz.func50.trans (congrArg some (by kernel_rfl))
  f165 := Tryz.func65.trans (congrArg some (by kernel_rfl))
  f166 := Tryz.func66.trans (congrArg some (by kernel_rfl))
  f169 := Tryz.func67.trans (congrArg some (by kernel_rfl))
  f195 := Tryz.func161.trans (congrArg some (by kernel_rfl))
  f197 := Tryz.func109.trans (congrArg some (by kernel_rfl))
  f217 := Tryz.func159.trans (congrArg some (by kernel_rfl))
  f218 := Tryz.func162.trans (congrArg some (by kernel_rfl))
  f219 := Tryz.func124.trans (congrArg some (by kernel_rfl))
  f224 := Tryz.func140.trans (congrArg some (by kernel_rfl))
  f225 := Tryz.func141.trans (congrArg some (by kernel_rfl))
  f240 := Tryz.func100.trans (congrArg some (by kernel_rfl))
  f241 := Tryz.func101.trans (congrArg some (by kernel_rfl))
  f260 := Tryz.func150.trans (congrArg some (by kernel_rfl))
  f266 := Tryz.func173.trans (congrArg some (by kernel_rfl))
  f267 := Tryz.func160.trans (congrArg some (by kernel_rfl))
  f276 := Tryz.func142.trans (congrArg some (by kernel_rfl))
  f277 := Tryz.func143.trans (congrArg some (by kernel_rfl))
  f314 := Tryz.func174.trans (congrArg some (by kernel_rfl))
  t0 := Tryz.underlying0
  a0 := Tryz.isAgg0
  z0 := Tryz.sizeOf0
  v0 := Tryz.zeroValue0
  t3 := Tryz.underlying3
  a3 := Tryz.isAgg3
  z3 := Tryz.sizeOf3
  v3 := Tryz.zeroValue3
  t4 := Tryz.underlying4
  a4 := Tryz.isAgg4
  z4 := Tryz.sizeOf4
  v4 := Tryz.zeroValue4
  t5 := Tryz.underlying5
  a5 := Tryz.isAgg5
  z5 := Tryz.sizeOf5
  v5 := Tryz.zeroValue5
  t9 := Tryz.underlying9
  a9 := Tryz.isAgg9
  z9 := Tryz.sizeOf9
  v9 := Tryz.zeroValue9
  t20 := Tryz.underlying20
  a20 := Tryz.isAgg20
  z20 := Tryz.sizeOf20
  v20 := Tryz.zeroValue20
  t21 := Tryz.underlying21
  a21 := Tryz.isAgg21
  z21 := Tryz.sizeOf21
  v21 := Tryz.zeroValue21
  t37 := Tryz.underlying73
  a37 := Tryz.isAgg73
  z37 := Tryz.sizeOf73
  v37 := Tryz.zeroValue73
  t46 := Tryz.underlying90
  a46 := Tryz.isAgg90
  z46 := Tryz.sizeOf90
  v46 := Tryz.zeroValue90
  t51 := Tryz.underlying116
  a51 := Tryz.isAgg116
  z51 := Tryz.sizeOf116
  v51 := Tryz.zeroValue116
  t70 := Tryz.underlying72
  a70 := Tryz.isAgg72
  z70 := Tryz.sizeOf72
  v70 := Tryz.zeroValue72
  t72 := Tryz.underlying75
  a72 := Tryz.isAgg75
  z72 := Tryz.sizeOf75
  v72 := Tryz.zeroValue75
  t75 := Tryz.underlying55
  a75 := Tryz.isAgg55
  z75 := Tryz.sizeOf55
  v75 := Tryz.zeroValue55
  t76 := Tryz.underlying77
  a76 := Tryz.isAgg77
  z76 := Tryz.sizeOf77
  v76 := Tryz.zeroValue77
  t105 := Tryz.underlying105
  a105 := Tryz.isAgg105
  z105 := Tryz.sizeOf105
  v105 := Tryz.zeroValue105
  t119 := Tryz.underlying152
  a119 := Tryz.isAgg152
  z119 := Tryz.sizeOf152
  t127 := Tryz.underlying98
  a127 := Tryz.isAgg98
  z127 := Tryz.sizeOf98
  v127 := Tryz.zeroValue98
  t138 := Tryz.underlying154
  a138 := Tryz.isAgg154
  z138 := Tryz.sizeOf154
  v138 := Tryz.zeroValue154
  t139 := Tryz.underlying155
  a139 := Tryz.isAgg155
  z139 := Tryz.sizeOf155
  v139 := Tryz.zeroValue155
  t146 := Tryz.underlying158
  a146 := Tryz.isAgg158
  z146 := Tryz.sizeOf158
  v146 := Tryz.zeroValue158
  t164 := Tryz.underlying128
  a164 := Tryz.isAgg128
  z164 := Tryz.sizeOf128
  v164 := Tryz.zeroValue128
  g1 := by kernel_rfl
  g3 := by kernel_rfl
  g4 := by kernel_rfl }
theorem Tryz.Builder_Extra_155 : Builder.Extra Tryz.prog Tryz.lays155_ren := {
  sizeBuilder := by kernel_rfl
  liesBuilder := by kernel_rfl
  t5 := Tryz.underlying5
  a5 := Tryz.isAgg5
  z5 := Tryz.sizeOf5
  v5 := Tryz.zeroValue5
  infoByte := by kernel_rfl
  cellsByte := by kernel_rfl
  sizeByte := by kernel_rfl
  neB5 := by decide }
open Go.RowKit Go.Lib in
/-- strings.ReplaceAll: "ReplaceAll returns a copy of the string s with all non-overlapping instances of old replaced by new.": AT AN old THAT IS NOT EMPTY: 'Lib.replaceAll s old new'. (LAID: no walk: one application.) -/
theorem Tryz.strings_ReplaceAll (s old new : ByteArray) (m : Int) (w : World) (hs : s.size < 4294967281) (hm : w.cell? ⟨2, 0, none⟩ = some (.int .i64 m)) (h1 : 1 ≤ old.size) (hlen : s.size + Lib.countB s old * new.size ≤ 140737488355328) :
    Calls Tryz.prog 50 #[.string s, .string old, .string new] w fun e w' =>
      e = .returned (.string ⟨(Lib.replaceAll s.data.toList old.data.toList new.data.toList).toArray⟩) ∧ Below w.heap.size w w' := Any.strings_ReplaceAll Tryz.lays155 Tryz.Builder_Extra_155 s old new m w hs hm h1 hlen
def Tryz.lays152_ren : Go.Shelf.Ren := ⟨fun | 152 => 97 | 137 => 138 | 119 => 139 | 224 => 140 | 225 => 141 | 217 => 159 | 266 => 173 | n => n, fun | 9 => 9 | 21 => 21 | 3 => 3 | 4 => 4 | 5 => 5 | 0 => 0 | 46 => 90 | n => n, fun | n => n⟩
theorem Tryz.lays152 : Go.Proofs.Lays.n152 Tryz.prog Tryz.lays152_ren := {
  mixed := by kernel_rfl
  f119 := Tryz.func139.trans (congrArg some (by kernel_rfl))
  f137 := Tryz.func138.trans (congrArg some (by kernel_rfl))
  f152 := Tryz.func97.trans (congrArg some (by kernel_rfl))
  f217 := Tryz.func159.trans (congrArg some (by kernel_rfl))
  f224 := Tryz.func140.trans (congrArg some (by kernel_rfl))
  f225 := Tryz.func141.trans (congrArg some (by kernel_rfl))
  f266 := Tryz.func173.trans (congrArg some (by kernel_rfl))
  t0 := Tryz.underlying0
  a0 := Tryz.isAgg0
  z0 := Tryz.sizeOf0
  v0 := Tryz.zeroValue0
  t3 := Tryz.underlying3
  a3 := Tryz.isAgg3
  z3 := Tryz.sizeOf3
  v3 := Tryz.zeroValue3
  t4 := Tryz.underlying4
  a4 := Tryz.isAgg4
  z4 := Tryz.sizeOf4
  v4 := Tryz.zeroValue4
  t5 := Tryz.underlying5
  a5 := Tryz.isAgg5
  z5 := Tryz.sizeOf5
  v5 := Tryz.zeroValue5
  t9 := Tryz.underlying9
  a9 := Tryz.isAgg9
  z9 := Tryz.sizeOf9
  v9 := Tryz.zeroValue9
  t21 := Tryz.underlying21
  a21 := Tryz.isAgg21
  z21 := Tryz.sizeOf21
  v21 := Tryz.zeroValue21
  t46 := Tryz.underlying90
  a46 := Tryz.isAgg90
  z46 := Tryz.sizeOf90
  v46 := Tryz.zeroValue90 }
open Go.RowKit Go.Lib in
theorem Tryz.strings_IndexRune_ascii (s : ByteArray) (r : Int) (w : World) (h0 : 0 ≤ r) (h1 : r < 128) :
    Calls Tryz.prog 97 #[.string s, .int .i32 r] w fun e w' => e = .returned (.int .i64 (Lib.indexByte s.data.toList r.toNat.toUInt8)) ∧ w' = w := Any.strings_IndexRune_ascii Tryz.lays152 s r w h0 h1
def Tryz.lays226_ren : Go.Shelf.Ren := ⟨fun | 226 => 98 | n => n, fun | 3 => 3 | 4 => 4 | n => n, fun | n => n⟩
theorem Tryz.lays226 : Go.Proofs.Lays.n226 Tryz.prog Tryz.lays226_ren := {
  mixed := by kernel_rfl
  f226 := Tryz.func98.trans (congrArg some (by kernel_rfl))
  t3 := Tryz.underlying3
  a3 := Tryz.isAgg3
  z3 := Tryz.sizeOf3
  v3 := Tryz.zeroValue3
  t4 := Tryz.underlying4
  a4 := Tryz.isAgg4
  z4 := Tryz.sizeOf4
  v4 := Tryz.zeroValue4 }
open Go.RowKit Go.Lib in
theorem Tryz.strings_shouldUseASCIISet (n : Int) (w : World) :
    Calls Tryz.prog 98 #[.int .i64 n] w fun e w' => e = .returned (.bool (decide (8 < n))) ∧ w' = w := Any.strings_shouldUseASCIISet Tryz.lays226 n w
def Tryz.lays153_ren : Go.Shelf.Ren := ⟨fun | 153 => 64 | 152 => 97 | 226 => 98 | 227 => 73 | 228 => 99 | 137 => 138 | 119 => 139 | 224 => 140 | 225 => 141 | 217 => 159 | 266 => 173 | n => n, fun | 9 => 9 | 3 => 3 | 4 => 4 | 5 => 5 | 21 => 21 | 117 => 84 | 116 => 83 | 0 => 0 | 46 => 90 | 124 => 87 | n => n, fun | n => n⟩
theorem Tryz.lays153 : Go.Proofs.Lays.n153 Tryz.prog Tryz.lays153_ren := {
  mixed := by kernel_rfl
  f119 := Tryz.func139.trans (congrArg some (by kernel_rfl))
  f137 := Tryz.func138.trans (congrArg some (by kernel_rfl))
  f152 := Tryz.func97.trans (congrArg some (by kernel_rfl))
  f153 := Tryz.func64.trans (congrArg some (by kernel_rfl))
  f217 := Tryz.func159.trans (congrArg some (by kernel_rfl))
  f224 := Tryz.func140.trans (congrArg some (by kernel_rfl))
  f225 := Tryz.func141.trans (congrArg some (by kernel_rfl))
  f226 := Tryz.func98.trans (congrArg some (by kernel_rfl))
  f227 := Tryz.func73.trans (congrArg some (by kernel_rfl))
  f228 := Tryz.func99.trans (congrArg some (by kernel_rfl))
  f266 := Tryz.func173.trans (congrArg some (by kernel_rfl))
  t0 := Tryz.underlying0
  a0 := Tryz.isAgg0
  z0 := Tryz.sizeOf0
  v0 := Tryz.zeroValue0
  t3 := Tryz.underlying3
  a3 := Tryz.isAgg3
  z3 := Tryz.sizeOf3
  v3 := Tryz.zeroValue3
  t4 := Tryz.underlying4
  a4 := Tryz.isAgg4
  z4 := Tryz.sizeOf4
  v4 := Tryz.zeroValue4
  t5 := Tryz.underlying5
  a5 := Tryz.isAgg5
  z5 := Tryz.sizeOf5
  v5 := Tryz.zeroValue5
  t9 := Tryz.underlying9
  a9 := Tryz.isAgg9
  z9 := Tryz.sizeOf9
  v9 := Tryz.zeroValue9
  t21 := Tryz.underlying21
  a21 := Tryz.isAgg21
  z21 := Tryz.sizeOf21
  v21 := Tryz.zeroValue21
  t46 := Tryz.underlying90
  a46 := Tryz.isAgg90
  z46 := Tryz.sizeOf90
  v46 := Tryz.zeroValue90
  t116 := Tryz.underlying83
  a116 := Tryz.isAgg83
  z116 := Tryz.sizeOf83
  t117 := Tryz.underlying84
  a117 := Tryz.isAgg84
  z117 := Tryz.sizeOf84
  v117 := Tryz.zeroValue84
  t124 := Tryz.underlying87
  a124 := Tryz.isAgg87
  z124 := Tryz.sizeOf87
  v124 := Tryz.zeroValue87 }
open Go.RowKit Go.Lib in
theorem Tryz.strings_IndexAny_long (hv116 : ∀ w, (zeroValue 83).run Tryz.prog w = .ok (.agg (Array.replicate 256 (.bool false))) w) (s chars : ByteArray) (w : World) (h2 : 2 ≤ chars.size) (h8 : 8 < s.size) (hs : s.size < 4294967281) (hcs : chars.size < 4294967281) (hascii : ∀ (j : Nat) b, chars.data.toList[j]? = some b → b.toNat < 128) :
    Calls Tryz.prog 64 #[.string s, .string chars] w fun e w' => e = .returned (.int .i64 (Lib.indexAny s.data.toList chars.data.toList)) ∧ w' = ((w.alloc (.cells (Lib.setCells chars.data.toList) 83)).alloc (.cells (Lib.setCells chars.data.toList) 83)) := Any.strings_IndexAny_long Tryz.lays153 hv116 (by kernel_rfl) s chars w h2 h8 hs hcs hascii
def Tryz.lays194_ren : Go.Shelf.Ren := ⟨fun | 194 => 37 | n => n, fun | 31 => 22 | 9 => 9 | 3 => 3 | 4 => 4 | 0 => 0 | n => n, fun | n => n⟩
theorem Tryz.lays194 : Go.Proofs.Lays.n194 Tryz.prog Tryz.lays194_ren := {
  mixed := by kernel_rfl
  f194 := Tryz.func37.trans (congrArg some (by kernel_rfl))
  t0 := Tryz.underlying0
  a0 := Tryz.isAgg0
  z0 := Tryz.sizeOf0
  v0 := Tryz.zeroValue0
  t3 := Tryz.underlying3
  a3 := Tryz.isAgg3
  z3 := Tryz.sizeOf3
  v3 := Tryz.zeroValue3
  t4 := Tryz.underlying4
  a4 := Tryz.isAgg4
  z4 := Tryz.sizeOf4
  v4 := Tryz.zeroValue4
  t9 := Tryz.underlying9
  a9 := Tryz.isAgg9
  z9 := Tryz.sizeOf9
  v9 := Tryz.zeroValue9
  t31 := Tryz.underlying22
  a31 := Tryz.isAgg22
  z31 := Tryz.sizeOf22
  v31 := Tryz.zeroValue22 }
open Go.RowKit Go.Lib Go.Sort in
/-- slices.Compact at []string: "Compact replaces consecutive runs of equal elements with a single copy. This is like the uniq command found on Unix. Compact modifies the contents of the slice s and returns the modified slice, which may have a smaller length. Compact zeroes the elements between the new length and the original length. The result preserves the nilness of s.": IT RETURNS THE SLICE CUT TO 'Lib.compact zs'; ITS CELLS HOLD 'Lib.compact zs', THEN ZERO VALUES up to the old length; all else is as it was, but for the count of draws. IN THE WORDS OF slices.Sort's CONTRACT ('Holds', 'putRow'): so the everyday 'slices.Sort(xs); xs = slices.Compact(xs)' goes from the one contract to the other. It asks 'zs.length ≤ cap' (every slice's: the reslicing 's[:k]' looks at it). Length 0, nil: '.._empty'. (LAID: no walk: one application.) -/
theorem Tryz.slices_Compact_string (blk off cap : Nat) (zs : List (List UInt8)) (w : World) (hH : Holds encStr w blk off zs.toArray) (hsz : zs.length ≤ 9223372036854775807) (hcap : zs.length ≤ cap) :
    Calls Tryz.prog 37 #[.slice (some ⟨blk, off, none⟩) zs.length cap] w fun e w' => e = .returned (.slice (some ⟨blk, off, none⟩) (Lib.compact zs).length cap) ∧ ∃ q, w' = putRow encStr (Sort.ahead w q) blk off (Lib.compact zs ++ List.replicate (zs.length - (Lib.compact zs).length) []).toArray := Any.slices_Compact_string Tryz.lays194 blk off cap zs w hH hsz hcap
open Go.RowKit Go.Lib Go.Sort in
/-- The same at a slice of length 0, a nil one too: it comes back as it is. (LAID: no walk: one application.) -/
theorem Tryz.slices_Compact_string_empty (a : Option Addr) (cap : Nat) (w : World) :
    Calls Tryz.prog 37 #[.slice a 0 cap] w fun e w' => e = .returned (.slice a 0 cap) ∧ w' = w := Any.slices_Compact_string_empty Tryz.lays194 a cap w
open Go.RowKit Go.Sort in
/-- .. and plain. (LAID: no walk: one application.) -/
theorem Tryz.slices_Sort_string_none (p : Option Addr) (cap : Nat) (w : World) :
    Calls Tryz.prog 36 #[.slice p 0 cap] w fun e w' => e = .returned (.tuple #[]) ∧ w' = w := Any.slices_Sort_string_none Tryz.lays190 p cap w
end Go.Proofs
