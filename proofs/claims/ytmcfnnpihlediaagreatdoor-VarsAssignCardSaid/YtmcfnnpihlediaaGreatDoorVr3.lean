/- Part 3 of the proof: what is walked and what is not, the pure interpreter over the code and its soundness, plain laws. -/
import Derived.Test.YtmcfnnpihlediaaGreatDoorVr2
import Derived.Test.YtmcfnnpihlediaaGreatDoorProg
import Derived.KernelRfl
import Derived.Test.YtmcfnnpihlediaaGreatDoorShelf
import Derived.Lib.AppendIntMem
import Derived.Shelf.Strings.SlTrimAscii
import Derived.Shelf.Strings.IndexAnyAll
import Derived.WalkMore
import Derived.Handy
import Derived.Deep.QuietTactic
import Derived.BigQuiet
import Derived.Deep.LoopGhost
import Derived.Lib.AtoiErrMem
import Derived.Shelf.Strings.Builder1
set_option linter.unusedSimpArgs false
set_option linter.unusedVariables false
set_option linter.unusedSectionVars false

/- This seat's program under the interpreter: types. -/
namespace Go.Proofs.YtmcfnnpihlediaaGreatDoor.Ex
open Go

def own1 : FuncId → Bool := fun f => [59, 157, 159, 161, 163, 110, 130, 3000000, 1000023, 1000037, 1000038, 1000050, 1000071, 1000055, 1000057, 1000081, 1000082, 1000084, 1000024, 1000040, 1000041, 1000058, 1000063, 1000065, 1000094, 1000033, 1000035, 2000084, 4000075].contains f

@[simp] theorem ty1 : tyOf Tryz.prog 1 = some ⟨1, 8, false, .other, some (.nilFunc)⟩ := by kernel_rfl
@[simp] theorem ty2 : tyOf Tryz.prog 2 = some ⟨1, 8, false, .int .i64, some (.int .i64 0)⟩ := by kernel_rfl
@[simp] theorem ty3 : tyOf Tryz.prog 3 = some ⟨1, 8, false, .int .i64, some (.int .i64 0)⟩ := by kernel_rfl
@[simp] theorem ty4 : tyOf Tryz.prog 4 = some ⟨1, 1, false, .bool, some (.bool false)⟩ := by kernel_rfl
@[simp] theorem ty5 : tyOf Tryz.prog 5 = some ⟨1, 1, false, .int .u8, some (.int .u8 0)⟩ := by kernel_rfl
@[simp] theorem ty9 : tyOf Tryz.prog 9 = some ⟨1, 16, false, .str, some (.string ⟨#[]⟩)⟩ := by kernel_rfl
@[simp] theorem ty15 : tyOf Tryz.prog 15 = some ⟨1, 8, false, .ptr 226, some (.pointer none)⟩ := by kernel_rfl
@[simp] theorem ty16 : tyOf Tryz.prog 16 = some ⟨1, 8, false, .ptr 229, some (.pointer none)⟩ := by kernel_rfl
@[simp] theorem ty17 : tyOf Tryz.prog 17 = some ⟨1, 8, false, .ptr 237, some (.pointer none)⟩ := by kernel_rfl
@[simp] theorem ty18 : tyOf Tryz.prog 18 = some ⟨1, 8, true, .struct [(17, 0)], some (.agg #[.pointer none])⟩ := by kernel_rfl
@[simp] theorem ty21 : tyOf Tryz.prog 21 = some ⟨1, 4, false, .int .i32, some (.int .i32 0)⟩ := by kernel_rfl
@[simp] theorem ty22 : tyOf Tryz.prog 22 = some ⟨1, 24, false, .slice 36, some (.slice none 0 0)⟩ := by kernel_rfl
@[simp] theorem ty23 : tyOf Tryz.prog 23 = some ⟨1, 8, false, .other, some (.nilFunc)⟩ := by kernel_rfl
@[simp] theorem ty24 : tyOf Tryz.prog 24 = some ⟨1, 24, true, .struct [(22, 0)], some (.agg #[.slice none 0 0])⟩ := by kernel_rfl
@[simp] theorem ty25 : tyOf Tryz.prog 25 = some ⟨1, 24, true, .struct [(22, 0)], some (.agg #[.slice none 0 0])⟩ := by kernel_rfl
@[simp] theorem ty26 : tyOf Tryz.prog 26 = some ⟨1, 24, false, .slice 39, some (.slice none 0 0)⟩ := by kernel_rfl
@[simp] theorem ty27 : tyOf Tryz.prog 27 = some ⟨1, 24, true, .struct [(26, 0)], some (.agg #[.slice none 0 0])⟩ := by kernel_rfl
@[simp] theorem ty28 : tyOf Tryz.prog 28 = some ⟨1, 24, true, .struct [(26, 0)], some (.agg #[.slice none 0 0])⟩ := by kernel_rfl
@[simp] theorem ty30 : tyOf Tryz.prog 30 = some ⟨1, 8, false, .other, some (.nilFunc)⟩ := by kernel_rfl
@[simp] theorem ty31 : tyOf Tryz.prog 31 = some ⟨1, 8, false, .int .i64, some (.int .i64 0)⟩ := by kernel_rfl
@[simp] theorem ty33 : tyOf Tryz.prog 33 = some ⟨1, 8, false, .other, some (.nilFunc)⟩ := by kernel_rfl
@[simp] theorem ty34 : tyOf Tryz.prog 34 = some ⟨1, 8, false, .other, some (.nilFunc)⟩ := by kernel_rfl
@[simp] theorem ty35 : tyOf Tryz.prog 35 = some ⟨3, 40, true, .struct [(9, 0), (9, 1), (4, 2)], some (.agg #[.string ⟨#[]⟩, .string ⟨#[]⟩, .bool false])⟩ := by kernel_rfl
@[simp] theorem ty36 : tyOf Tryz.prog 36 = some ⟨3, 40, true, .struct [(9, 0), (9, 1), (4, 2)], some (.agg #[.string ⟨#[]⟩, .string ⟨#[]⟩, .bool false])⟩ := by kernel_rfl
@[simp] theorem ty38 : tyOf Tryz.prog 38 = some ⟨1, 8, false, .other, some (.nilFunc)⟩ := by kernel_rfl
@[simp] theorem ty39 : tyOf Tryz.prog 39 = some ⟨3, 40, true, .struct [(9, 0), (9, 1), (4, 2)], some (.agg #[.string ⟨#[]⟩, .string ⟨#[]⟩, .bool false])⟩ := by kernel_rfl
@[simp] theorem ty41 : tyOf Tryz.prog 41 = some ⟨1, 8, false, .other, some (.nilFunc)⟩ := by kernel_rfl
@[simp] theorem ty42 : tyOf Tryz.prog 42 = some ⟨1, 8, false, .other, some (.nilFunc)⟩ := by kernel_rfl
@[simp] theorem ty43 : tyOf Tryz.prog 43 = some ⟨1, 8, false, .other, some (.nilFunc)⟩ := by kernel_rfl
@[simp] theorem ty44 : tyOf Tryz.prog 44 = some ⟨1, 8, false, .other, some (.nilFunc)⟩ := by kernel_rfl
@[simp] theorem ty45 : tyOf Tryz.prog 45 = some ⟨1, 8, false, .other, some (.nilFunc)⟩ := by kernel_rfl
@[simp] theorem ty46 : tyOf Tryz.prog 46 = some ⟨1, 8, false, .other, some (.nilFunc)⟩ := by kernel_rfl
@[simp] theorem ty47 : tyOf Tryz.prog 47 = some ⟨1, 8, false, .other, some (.nilFunc)⟩ := by kernel_rfl
@[simp] theorem ty48 : tyOf Tryz.prog 48 = some ⟨1, 8, false, .other, some (.nilFunc)⟩ := by kernel_rfl
@[simp] theorem ty49 : tyOf Tryz.prog 49 = some ⟨1, 24, false, .slice 51, some (.slice none 0 0)⟩ := by kernel_rfl
@[simp] theorem ty50 : tyOf Tryz.prog 50 = some ⟨3, 48, true, .struct [(9, 0), (9, 1), (9, 2)], some (.agg #[.string ⟨#[]⟩, .string ⟨#[]⟩, .string ⟨#[]⟩])⟩ := by kernel_rfl
@[simp] theorem ty51 : tyOf Tryz.prog 51 = some ⟨3, 48, true, .struct [(9, 0), (9, 1), (9, 2)], some (.agg #[.string ⟨#[]⟩, .string ⟨#[]⟩, .string ⟨#[]⟩])⟩ := by kernel_rfl
@[simp] theorem ty53 : tyOf Tryz.prog 53 = some ⟨1, 8, false, .other, some (.nilFunc)⟩ := by kernel_rfl
@[simp] theorem ty55 : tyOf Tryz.prog 55 = some ⟨1, 8, false, .other, some (.nilFunc)⟩ := by kernel_rfl
@[simp] theorem ty56 : tyOf Tryz.prog 56 = some ⟨1, 8, false, .other, some (.nilFunc)⟩ := by kernel_rfl
@[simp] theorem ty57 : tyOf Tryz.prog 57 = some ⟨1, 8, false, .other, some (.nilFunc)⟩ := by kernel_rfl
@[simp] theorem ty58 : tyOf Tryz.prog 58 = some ⟨1, 8, false, .other, some (.nilFunc)⟩ := by kernel_rfl
@[simp] theorem ty59 : tyOf Tryz.prog 59 = some ⟨1, 8, false, .ptr 3, some (.pointer none)⟩ := by kernel_rfl
@[simp] theorem ty60 : tyOf Tryz.prog 60 = some ⟨3, 40, true, .struct [(25, 0), (3, 1), (59, 2)], some (.agg #[.slice none 0 0, .int .i64 0, .pointer none])⟩ := by kernel_rfl
@[simp] theorem ty61 : tyOf Tryz.prog 61 = some ⟨3, 40, true, .struct [(25, 0), (3, 1), (59, 2)], some (.agg #[.slice none 0 0, .int .i64 0, .pointer none])⟩ := by kernel_rfl
@[simp] theorem ty62 : tyOf Tryz.prog 62 = some ⟨1, 8, false, .other, some (.nilFunc)⟩ := by kernel_rfl
@[simp] theorem ty63 : tyOf Tryz.prog 63 = some ⟨1, 8, false, .ptr 65, some (.pointer none)⟩ := by kernel_rfl
@[simp] theorem ty64 : tyOf Tryz.prog 64 = some ⟨1, 8, true, .struct [(3, 0)], some (.agg #[.int .i64 0])⟩ := by kernel_rfl
@[simp] theorem ty65 : tyOf Tryz.prog 65 = some ⟨1, 8, true, .struct [(3, 0)], some (.agg #[.int .i64 0])⟩ := by kernel_rfl
@[simp] theorem ty66 : tyOf Tryz.prog 66 = some ⟨1, 8, false, .other, some (.nilFunc)⟩ := by kernel_rfl
@[simp] theorem ty67 : tyOf Tryz.prog 67 = some ⟨1, 8, false, .other, some (.nilFunc)⟩ := by kernel_rfl
@[simp] theorem ty68 : tyOf Tryz.prog 68 = some ⟨1, 8, false, .other, some (.nilFunc)⟩ := by kernel_rfl
@[simp] theorem ty69 : tyOf Tryz.prog 69 = some ⟨1, 8, false, .other, some (.nilFunc)⟩ := by kernel_rfl
@[simp] theorem ty71 : tyOf Tryz.prog 71 = some ⟨1, 8, false, .other, some (.nilFunc)⟩ := by kernel_rfl
@[simp] theorem ty72 : tyOf Tryz.prog 72 = some ⟨1, 8, false, .other, some (.nilFunc)⟩ := by kernel_rfl
@[simp] theorem ty73 : tyOf Tryz.prog 73 = some ⟨1, 8, false, .other, some (.nilFunc)⟩ := by kernel_rfl
@[simp] theorem ty74 : tyOf Tryz.prog 74 = some ⟨1, 8, false, .ptr 77, some (.pointer none)⟩ := by kernel_rfl
@[simp] theorem ty75 : tyOf Tryz.prog 75 = some ⟨1, 24, false, .slice 5, some (.slice none 0 0)⟩ := by kernel_rfl
@[simp] theorem ty76 : tyOf Tryz.prog 76 = some ⟨2, 32, true, .struct [(74, 0), (75, 1)], some (.agg #[.pointer none, .slice none 0 0])⟩ := by kernel_rfl
@[simp] theorem ty77 : tyOf Tryz.prog 77 = some ⟨2, 32, true, .struct [(74, 0), (75, 1)], some (.agg #[.pointer none, .slice none 0 0])⟩ := by kernel_rfl
@[simp] theorem ty79 : tyOf Tryz.prog 79 = some ⟨1, 8, false, .other, some (.nilFunc)⟩ := by kernel_rfl
@[simp] theorem ty80 : tyOf Tryz.prog 80 = some ⟨1, 16, false, .other, some (.nilIface)⟩ := by kernel_rfl
@[simp] theorem ty81 : tyOf Tryz.prog 81 = some ⟨1, 16, false, .other, some (.nilIface)⟩ := by kernel_rfl
@[simp] theorem ty83 : tyOf Tryz.prog 83 = some ⟨1, 8, false, .other, some (.nilFunc)⟩ := by kernel_rfl
@[simp] theorem ty84 : tyOf Tryz.prog 84 = some ⟨1, 8, false, .other, some (.nilFunc)⟩ := by kernel_rfl
@[simp] theorem ty85 : tyOf Tryz.prog 85 = some ⟨1, 8, false, .other, some (.nilFunc)⟩ := by kernel_rfl
@[simp] theorem ty86 : tyOf Tryz.prog 86 = some ⟨1, 8, false, .other, some (.nilFunc)⟩ := by kernel_rfl
@[simp] theorem ty87 : tyOf Tryz.prog 87 = some ⟨1, 8, false, .other, some (.nilFunc)⟩ := by kernel_rfl
@[simp] theorem ty88 : tyOf Tryz.prog 88 = some ⟨1, 8, false, .other, some (.nilFunc)⟩ := by kernel_rfl
@[simp] theorem ty89 : tyOf Tryz.prog 89 = some ⟨1, 8, false, .other, some (.nilFunc)⟩ := by kernel_rfl
@[simp] theorem ty90 : tyOf Tryz.prog 90 = some ⟨1, 8, false, .other, some (.nilFunc)⟩ := by kernel_rfl
@[simp] theorem ty91 : tyOf Tryz.prog 91 = some ⟨1, 8, false, .other, some (.nilFunc)⟩ := by kernel_rfl
@[simp] theorem ty92 : tyOf Tryz.prog 92 = some ⟨1, 8, false, .ptr 5, some (.pointer none)⟩ := by kernel_rfl
@[simp] theorem ty93 : tyOf Tryz.prog 93 = some ⟨1, 8, false, .other, some (.nilFunc)⟩ := by kernel_rfl
@[simp] theorem ty95 : tyOf Tryz.prog 95 = some ⟨1, 8, false, .other, some (.nilFunc)⟩ := by kernel_rfl
@[simp] theorem ty97 : tyOf Tryz.prog 97 = some ⟨1, 8, false, .other, some (.nilFunc)⟩ := by kernel_rfl
@[simp] theorem ty98 : tyOf Tryz.prog 98 = some ⟨1, 24, false, .slice 9, some (.slice none 0 0)⟩ := by kernel_rfl
@[simp] theorem ty99 : tyOf Tryz.prog 99 = some ⟨1, 8, false, .other, some (.nilFunc)⟩ := by kernel_rfl
@[simp] theorem ty100 : tyOf Tryz.prog 100 = some ⟨1, 8, false, .other, some (.nilFunc)⟩ := by kernel_rfl
@[simp] theorem ty101 : tyOf Tryz.prog 101 = some ⟨1, 8, false, .other, some (.nilFunc)⟩ := by kernel_rfl
@[simp] theorem ty103 : tyOf Tryz.prog 103 = some ⟨1, 8, false, .other, some (.nilFunc)⟩ := by kernel_rfl
@[simp] theorem ty104 : tyOf Tryz.prog 104 = some ⟨1, 8, false, .other, some (.nilFunc)⟩ := by kernel_rfl
@[simp] theorem ty105 : tyOf Tryz.prog 105 = some ⟨1, 8, false, .other, some (.nilFunc)⟩ := by kernel_rfl
@[simp] theorem ty106 : tyOf Tryz.prog 106 = some ⟨1, 8, false, .other, some (.nilFunc)⟩ := by kernel_rfl
@[simp] theorem ty107 : tyOf Tryz.prog 107 = some ⟨1, 8, false, .other, some (.nilFunc)⟩ := by kernel_rfl
@[simp] theorem ty108 : tyOf Tryz.prog 108 = some ⟨1, 8, false, .other, some (.nilFunc)⟩ := by kernel_rfl
@[simp] theorem ty109 : tyOf Tryz.prog 109 = some ⟨1, 8, false, .other, some (.nilFunc)⟩ := by kernel_rfl
@[simp] theorem ty110 : tyOf Tryz.prog 110 = some ⟨1, 8, false, .int .u64, some (.int .u64 0)⟩ := by kernel_rfl
@[simp] theorem ty112 : tyOf Tryz.prog 112 = some ⟨1, 8, false, .other, some (.nilFunc)⟩ := by kernel_rfl
@[simp] theorem ty113 : tyOf Tryz.prog 113 = some ⟨1, 8, false, .other, some (.nilFunc)⟩ := by kernel_rfl
@[simp] theorem ty114 : tyOf Tryz.prog 114 = some ⟨1, 8, false, .other, some (.nilFunc)⟩ := by kernel_rfl
@[simp] theorem ty115 : tyOf Tryz.prog 115 = some ⟨1, 8, false, .other, some (.nilFunc)⟩ := by kernel_rfl
@[simp] theorem ty119 : tyOf Tryz.prog 119 = some ⟨1, 8, false, .other, some (.nilFunc)⟩ := by kernel_rfl
@[simp] theorem ty120 : tyOf Tryz.prog 120 = some ⟨1, 8, false, .other, some (.nilFunc)⟩ := by kernel_rfl
@[simp] theorem ty121 : tyOf Tryz.prog 121 = some ⟨1, 8, false, .other, some (.nilFunc)⟩ := by kernel_rfl
@[simp] theorem ty122 : tyOf Tryz.prog 122 = some ⟨1, 8, false, .other, some (.nilFunc)⟩ := by kernel_rfl
@[simp] theorem ty123 : tyOf Tryz.prog 123 = some ⟨1, 8, false, .ptr 117, some (.pointer none)⟩ := by kernel_rfl
@[simp] theorem ty125 : tyOf Tryz.prog 125 = some ⟨1, 8, false, .other, some (.nilFunc)⟩ := by kernel_rfl
@[simp] theorem ty126 : tyOf Tryz.prog 126 = some ⟨1, 8, false, .other, some (.nilFunc)⟩ := by kernel_rfl
@[simp] theorem ty127 : tyOf Tryz.prog 127 = some ⟨1, 8, false, .other, some (.nilFunc)⟩ := by kernel_rfl
@[simp] theorem ty128 : tyOf Tryz.prog 128 = some ⟨1, 8, false, .other, some (.nilFunc)⟩ := by kernel_rfl
@[simp] theorem ty129 : tyOf Tryz.prog 129 = some ⟨1, 24, false, .slice 5, some (.slice none 0 0)⟩ := by kernel_rfl
@[simp] theorem ty131 : tyOf Tryz.prog 131 = some ⟨1, 8, false, .other, some (.nilFunc)⟩ := by kernel_rfl
@[simp] theorem ty132 : tyOf Tryz.prog 132 = some ⟨1, 8, false, .other, some (.nilFunc)⟩ := by kernel_rfl
@[simp] theorem ty133 : tyOf Tryz.prog 133 = some ⟨1, 24, false, .slice 4, some (.slice none 0 0)⟩ := by kernel_rfl
@[simp] theorem ty134 : tyOf Tryz.prog 134 = some ⟨1, 8, false, .other, some (.nilFunc)⟩ := by kernel_rfl
@[simp] theorem ty135 : tyOf Tryz.prog 135 = some ⟨1, 8, false, .other, some (.nilFunc)⟩ := by kernel_rfl
@[simp] theorem ty136 : tyOf Tryz.prog 136 = some ⟨1, 8, false, .other, some (.nilFunc)⟩ := by kernel_rfl
@[simp] theorem ty137 : tyOf Tryz.prog 137 = some ⟨1, 8, false, .other, some (.nilFunc)⟩ := by kernel_rfl
@[simp] theorem ty138 : tyOf Tryz.prog 138 = some ⟨1, 8, false, .other, some (.nilFunc)⟩ := by kernel_rfl
@[simp] theorem ty139 : tyOf Tryz.prog 139 = some ⟨1, 8, false, .other, some (.nilFunc)⟩ := by kernel_rfl
@[simp] theorem ty141 : tyOf Tryz.prog 141 = some ⟨1, 8, false, .other, some (.nilFunc)⟩ := by kernel_rfl
@[simp] theorem ty142 : tyOf Tryz.prog 142 = some ⟨1, 8, false, .other, some (.nilFunc)⟩ := by kernel_rfl
@[simp] theorem ty144 : tyOf Tryz.prog 144 = some ⟨1, 8, false, .other, some (.nilFunc)⟩ := by kernel_rfl
@[simp] theorem ty145 : tyOf Tryz.prog 145 = some ⟨1, 8, false, .other, some (.nilFunc)⟩ := by kernel_rfl
@[simp] theorem ty146 : tyOf Tryz.prog 146 = some ⟨1, 8, false, .other, some (.nilFunc)⟩ := by kernel_rfl
@[simp] theorem ty147 : tyOf Tryz.prog 147 = some ⟨1, 8, false, .other, some (.nilFunc)⟩ := by kernel_rfl
@[simp] theorem ty148 : tyOf Tryz.prog 148 = some ⟨1, 8, false, .other, some (.nilFunc)⟩ := by kernel_rfl
@[simp] theorem ty149 : tyOf Tryz.prog 149 = some ⟨1, 4, false, .int .u32, some (.int .u32 0)⟩ := by kernel_rfl
@[simp] theorem ty151 : tyOf Tryz.prog 151 = some ⟨1, 8, false, .other, some (.nilFunc)⟩ := by kernel_rfl
@[simp] theorem ty152 : tyOf Tryz.prog 152 = some ⟨1, 8, false, .other, some (.nilFunc)⟩ := by kernel_rfl
@[simp] theorem ty153 : tyOf Tryz.prog 153 = some ⟨1, 8, false, .other, some (.nilFunc)⟩ := by kernel_rfl
@[simp] theorem ty154 : tyOf Tryz.prog 154 = some ⟨1, 8, false, .other, some (.nilFunc)⟩ := by kernel_rfl
@[simp] theorem ty155 : tyOf Tryz.prog 155 = some ⟨1, 8, false, .other, some (.nilFunc)⟩ := by kernel_rfl
@[simp] theorem ty156 : tyOf Tryz.prog 156 = some ⟨1, 8, false, .other, some (.nilFunc)⟩ := by kernel_rfl
@[simp] theorem ty157 : tyOf Tryz.prog 157 = some ⟨1, 8, false, .other, some (.nilFunc)⟩ := by kernel_rfl
@[simp] theorem ty158 : tyOf Tryz.prog 158 = some ⟨1, 8, false, .other, some (.nilFunc)⟩ := by kernel_rfl
@[simp] theorem ty159 : tyOf Tryz.prog 159 = some ⟨1, 8, false, .other, some (.nilFunc)⟩ := by kernel_rfl
@[simp] theorem ty160 : tyOf Tryz.prog 160 = some ⟨1, 8, false, .other, some (.nilFunc)⟩ := by kernel_rfl
@[simp] theorem ty161 : tyOf Tryz.prog 161 = some ⟨1, 8, false, .other, some (.nilFunc)⟩ := by kernel_rfl
@[simp] theorem ty162 : tyOf Tryz.prog 162 = some ⟨1, 8, false, .other, some (.nilFunc)⟩ := by kernel_rfl
@[simp] theorem ty163 : tyOf Tryz.prog 163 = some ⟨1, 8, false, .other, some (.nilFunc)⟩ := by kernel_rfl
@[simp] theorem ty164 : tyOf Tryz.prog 164 = some ⟨1, 8, false, .other, some (.nilFunc)⟩ := by kernel_rfl
@[simp] theorem ty165 : tyOf Tryz.prog 165 = some ⟨1, 8, false, .other, some (.nilFunc)⟩ := by kernel_rfl
@[simp] theorem ty166 : tyOf Tryz.prog 166 = some ⟨1, 8, false, .other, some (.nilFunc)⟩ := by kernel_rfl
@[simp] theorem ty167 : tyOf Tryz.prog 167 = some ⟨1, 8, false, .other, some (.nilFunc)⟩ := by kernel_rfl
@[simp] theorem ty168 : tyOf Tryz.prog 168 = some ⟨1, 8, false, .other, some (.nilFunc)⟩ := by kernel_rfl
@[simp] theorem ty170 : tyOf Tryz.prog 170 = some ⟨2, 2, true, .struct [(5, 0), (5, 1)], some (.agg #[.int .u8 0, .int .u8 0])⟩ := by kernel_rfl
@[simp] theorem ty173 : tyOf Tryz.prog 173 = some ⟨1, 8, false, .other, some (.nilFunc)⟩ := by kernel_rfl
@[simp] theorem ty174 : tyOf Tryz.prog 174 = some ⟨1, 8, false, .other, some (.nilFunc)⟩ := by kernel_rfl
@[simp] theorem ty175 : tyOf Tryz.prog 175 = some ⟨1, 8, false, .other, some (.nilFunc)⟩ := by kernel_rfl
@[simp] theorem ty176 : tyOf Tryz.prog 176 = some ⟨1, 8, false, .other, some (.nilFunc)⟩ := by kernel_rfl
@[simp] theorem ty177 : tyOf Tryz.prog 177 = some ⟨1, 8, false, .other, some (.nilFunc)⟩ := by kernel_rfl
@[simp] theorem ty178 : tyOf Tryz.prog 178 = some ⟨1, 16, false, .str, some (.string ⟨#[]⟩)⟩ := by kernel_rfl
@[simp] theorem ty179 : tyOf Tryz.prog 179 = some ⟨1, 8, false, .other, some (.nilFunc)⟩ := by kernel_rfl
@[simp] theorem ty181 : tyOf Tryz.prog 181 = some ⟨1, 8, false, .int .u64, some (.int .u64 0)⟩ := by kernel_rfl
@[simp] theorem ty182 : tyOf Tryz.prog 182 = some ⟨1, 8, false, .other, some (.nilFunc)⟩ := by kernel_rfl
@[simp] theorem ty183 : tyOf Tryz.prog 183 = some ⟨1, 8, false, .other, some (.nilFunc)⟩ := by kernel_rfl
@[simp] theorem ty185 : tyOf Tryz.prog 185 = some ⟨1, 8, false, .other, some (.nilFunc)⟩ := by kernel_rfl
@[simp] theorem ty186 : tyOf Tryz.prog 186 = some ⟨1, 8, false, .other, some (.nilFunc)⟩ := by kernel_rfl
@[simp] theorem ty189 : tyOf Tryz.prog 189 = some ⟨1, 8, false, .other, some (.nilFunc)⟩ := by kernel_rfl
@[simp] theorem ty190 : tyOf Tryz.prog 190 = some ⟨1, 8, false, .other, some (.nilFunc)⟩ := by kernel_rfl
@[simp] theorem ty191 : tyOf Tryz.prog 191 = some ⟨1, 8, false, .other, some (.nilFunc)⟩ := by kernel_rfl
@[simp] theorem ty192 : tyOf Tryz.prog 192 = some ⟨1, 8, false, .other, some (.nilFunc)⟩ := by kernel_rfl
@[simp] theorem ty193 : tyOf Tryz.prog 193 = some ⟨1, 8, false, .other, some (.nilFunc)⟩ := by kernel_rfl
@[simp] theorem ty194 : tyOf Tryz.prog 194 = some ⟨1, 8, false, .other, some (.nilFunc)⟩ := by kernel_rfl
@[simp] theorem ty196 : tyOf Tryz.prog 196 = some ⟨1, 8, false, .other, some (.nilFunc)⟩ := by kernel_rfl
@[simp] theorem ty197 : tyOf Tryz.prog 197 = some ⟨1, 8, false, .other, some (.nilFunc)⟩ := by kernel_rfl
@[simp] theorem ty198 : tyOf Tryz.prog 198 = some ⟨1, 8, false, .other, some (.nilFunc)⟩ := by kernel_rfl
@[simp] theorem ty199 : tyOf Tryz.prog 199 = some ⟨1, 8, false, .other, some (.nilFunc)⟩ := by kernel_rfl
@[simp] theorem ty202 : tyOf Tryz.prog 202 = some ⟨1, 8, false, .other, some (.nilFunc)⟩ := by kernel_rfl
@[simp] theorem ty203 : tyOf Tryz.prog 203 = some ⟨1, 8, false, .other, some (.nilFunc)⟩ := by kernel_rfl
@[simp] theorem ty205 : tyOf Tryz.prog 205 = some ⟨1, 8, false, .other, some (.nilFunc)⟩ := by kernel_rfl
@[simp] theorem ty206 : tyOf Tryz.prog 206 = some ⟨1, 8, false, .other, some (.nilFunc)⟩ := by kernel_rfl
@[simp] theorem ty207 : tyOf Tryz.prog 207 = some ⟨1, 8, false, .other, some (.nilFunc)⟩ := by kernel_rfl
@[simp] theorem ty208 : tyOf Tryz.prog 208 = some ⟨1, 8, false, .other, some (.nilFunc)⟩ := by kernel_rfl
@[simp] theorem ty209 : tyOf Tryz.prog 209 = some ⟨1, 8, false, .other, some (.nilFunc)⟩ := by kernel_rfl
@[simp] theorem ty210 : tyOf Tryz.prog 210 = some ⟨1, 8, false, .ptr 204, some (.pointer none)⟩ := by kernel_rfl
@[simp] theorem ty211 : tyOf Tryz.prog 211 = some ⟨1, 8, false, .other, some (.nilFunc)⟩ := by kernel_rfl
@[simp] theorem ty213 : tyOf Tryz.prog 213 = some ⟨1, 8, false, .other, some (.nilFunc)⟩ := by kernel_rfl
@[simp] theorem ty214 : tyOf Tryz.prog 214 = some ⟨1, 8, false, .ptr 220, some (.pointer none)⟩ := by kernel_rfl
@[simp] theorem ty215 : tyOf Tryz.prog 215 = some ⟨1, 8, false, .other, some (.nilFunc)⟩ := by kernel_rfl
@[simp] theorem ty216 : tyOf Tryz.prog 216 = some ⟨1, 8, false, .other, some (.nilFunc)⟩ := by kernel_rfl
@[simp] theorem ty219 : tyOf Tryz.prog 219 = some ⟨3, 48, true, .struct [(9, 0), (9, 1), (81, 2)], some (.agg #[.string ⟨#[]⟩, .string ⟨#[]⟩, .nilIface])⟩ := by kernel_rfl
@[simp] theorem ty221 : tyOf Tryz.prog 221 = some ⟨1, 8, false, .other, some (.nilFunc)⟩ := by kernel_rfl
@[simp] theorem ty222 : tyOf Tryz.prog 222 = some ⟨1, 8, false, .ptr 224, some (.pointer none)⟩ := by kernel_rfl
@[simp] theorem ty223 : tyOf Tryz.prog 223 = some ⟨1, 16, true, .struct [(9, 0)], some (.agg #[.string ⟨#[]⟩])⟩ := by kernel_rfl
@[simp] theorem ty225 : tyOf Tryz.prog 225 = some ⟨4, 40, true, .struct [(17, 0), (17, 1), (17, 2), (9, 3)], some (.agg #[.pointer none, .pointer none, .pointer none, .string ⟨#[]⟩])⟩ := by kernel_rfl
@[simp] theorem ty230 : tyOf Tryz.prog 230 = some ⟨1, 8, false, .other, some (.nilFunc)⟩ := by kernel_rfl
@[simp] theorem ty233 : tyOf Tryz.prog 233 = some ⟨1, 8, false, .other, some (.nilFunc)⟩ := by kernel_rfl

end Go.Proofs.YtmcfnnpihlediaaGreatDoor.Ex

/- This seat's program under the interpreter: types, the table of what is not walked, words for the steps. -/
namespace Go.Proofs.YtmcfnnpihlediaaGreatDoor.Ex
open Go


attribute [simp] rgn rgnD wantA evOp evOpD evPlain evBin binAV boolAV opv constAV calleeAV opvs updO isApp takes takes.isAppOf takes.isRet mvAV evBuiltin nilAV evPlace loadD loadAV partAV
  evX softOk Region.binds isEff isExt effF extF keepS evBuild putPart shrAV aggEq evObj bldTy obCells gives gives.makes bnds evBS evApp flatAV AV.cells exitIds finFn closeD resAV packAV jumpAV leaveS enterS enterD PX.jump parPF noBox noBoxL givesOp zOk zerosOk own1 Value.cells
  evNil evBuildN nilAll nilT nilS isFA fromField appRow evRow evMake isRowo putOb partRow ifaceT isPan isPan1 okRes evPan isNilSl

section
variable {P : Program} {own : FuncId → Bool} {call : CallT} {n : Nat} {rd : Option Nat} {nt : Nat} {c : Cfg}
@[simp] theorem exec_skip : exec P own call n rd nt .skip c = some (.norm, c) := _root_.id rfl
/-- How a region ends, looked at one by one. -/
noncomputable def rgx (P : Program) (own : FuncId → Bool) (call : CallT) (ops : Array Oper) (c : Cfg) : Option (PF × Obs) → Option (PX × Cfg)
  | some p => some (.norm, ⟨p.1, p.2, c.D⟩)
  | none => (rgnP P own call ops ops.toList c.pf c.S).map fun p => (.pan p.1, ⟨c.pf, p.2, c.D⟩)
@[simp] theorem rgx_some {ops : Array Oper} {p : PF × Obs} : rgx P own call ops c (some p) = some (.norm, ⟨p.1, p.2, c.D⟩) := _root_.id rfl
@[simp] theorem rgx_none {ops : Array Oper} : rgx P own call ops c none = (rgnP P own call ops ops.toList c.pf c.S).map fun p => (.pan p.1, ⟨c.pf, p.2, c.D⟩) := _root_.id rfl
@[simp] theorem exec_region {id : Nat} {ops : Array Oper} : exec P own call n rd nt (.region id ops false) c = rgx P own call ops c (rgn P own call ops ops.toList c.pf c.S) := by
  show regX _ _ _ = _
  cases rgn P own call ops ops.toList c.pf c.S <;> rfl
@[simp] theorem exec_draw {id : Nat} {ops : Array Oper} : exec P own call n rd nt (.region id ops true) c = (rgnD P own call ops ops.toList c.pf c.S).map fun p => (.norm, ⟨p.1, p.2, c.D⟩) := _root_.id rfl
@[simp] theorem exec_seq {a b : Code} : exec P own call n rd nt (.seq a b) c = (match exec P own call n rd nt a c with
    | some (.norm, c') => exec P own call n rd nt b c'
    | r => r) := _root_.id rfl
@[simp] theorem exec_cond {k : Operand} {x y : Code} : exec P own call n rd nt (.cond k x y) c = (match opv c.pf k with
    | some (.bool t) => if t then exec P own call n rd nt x c else exec P own call n rd nt y c
    | _ => none) := _root_.id rfl
@[simp] theorem exec_block {id : Nat} {k : Code} : exec P own call n rd nt (.block id k) c = (match exec P own call n rd nt k c with
    | some (.ex i, c') => if i = id then some (.norm, c') else some (.ex i, c')
    | r => r) := _root_.id rfl
@[simp] theorem exec_loop {k : Code} : exec P own call n rd nt (.loop k) c = iter (exec P own call n rd nt k) n c := _root_.id rfl
@[simp] theorem exec_exit {id : Nat} : exec P own call n rd nt (.exit id) c = some (.ex id, c) := _root_.id rfl
@[simp] theorem exec_ret : exec P own call n rd nt .ret c = some (.ret, c) := _root_.id rfl
@[simp] theorem exec_range {g : Operand} {ps : Array Tmp} {asg body : Code} : exec P own call n rd nt (.rangeFunc g ps asg body) c = (match opv c.pf g with
    | some (.fn f fs cs) =>
      (match enterS rd c.S ⟨.ready, none, c.pf, nt, ps.toList, asg, body⟩ with
      | some S1 =>
        (match call (.f f) (fs ++ [.yld (S1.length - 1)] ++ cs) S1 with
        | some (rs, S2) => if isPan rs then none else leaveS (exitIds body) c.pf (enterD rd c.S c.D) (S1.length - 1) S2
        | none => none)
      | none => none)
    | _ => none) := _root_.id rfl
end

@[simp] theorem initPF_cons (v : AV) (vs : List AV) (t : Nat) : initPF (v :: vs) t = if t = 0 then v else initPF vs (t - 1) := by
  cases t <;> simp [initPF]
@[simp] theorem initPF_nil (t : Nat) : initPF [] t = .undef := rfl
@[simp] theorem range2 : List.range 2 = [0, 1] := _root_.id rfl
@[simp] theorem range3 : List.range 3 = [0, 1, 2] := _root_.id rfl
@[simp] theorem range4 : List.range 4 = [0, 1, 2, 3] := _root_.id rfl
@[simp] theorem range5 : List.range 5 = [0, 1, 2, 3, 4] := _root_.id rfl
@[simp] theorem upd_at (pf : PF) (d : Nat) (v : AV) (t : Nat) : upd pf d v t = if t = d then v else pf t := rfl

/-- A call, by what is known of its body. -/
theorem callP_fn {P : Program} {own : FuncId → Bool} {ext : Exts} {eo : ExtO} {L : List FuncId} {n : Nat} {f : FuncId} {fn : Func} {c : Code} {avs rs : List AV} {S : Obs} (he : ext f = none) (ho : eo f = none) (hL : L.contains f = true)
    (hf : P.funcs[f]? = some fn) (hb : fn.body = some c) (h1 : noBoxL avs = true) (h2 : noBoxL rs = true) (h : runFn P own (fnS P own ext eo L n) n fn c avs [] = some (rs, S)) :
    callP (fnS P own ext eo L (n + 1)) (.f f) avs = some (packAV rs) := by
  have hL' : f ∈ L := by simpa using hL
  simp [callP, fnS, h1, he, ho, hL', hf, hb, h, h2]

theorem fnS_fn {P : Program} {own : FuncId → Bool} {ext : Exts} {eo : ExtO} {L : List FuncId} {n : Nat} {f : FuncId} {fn : Func} {c : Code} {avs : List AV} {S : Obs} (he : ext f = none) (ho : eo f = none) (hL : L.contains f = true)
    (hf : P.funcs[f]? = some fn) (hb : fn.body = some c) : fnS P own ext eo L (n + 1) (.f f) avs S = runFn P own (fnS P own ext eo L n) n fn c avs S := by
  have hL' : f ∈ L := by simpa using hL
  simp [fnS, he, ho, hL', hf, hb]

theorem callP_ext {P : Program} {own : FuncId → Bool} {ext : Exts} {eo : ExtO} {L : List FuncId} {n : Nat} {f : FuncId} {g : List AV → Option (List AV)} {avs rs : List AV} (he : ext f = some g)
    (h1 : noBoxL avs = true) (h2 : noBoxL rs = true) (h : g avs = some rs) : callP (fnS P own ext eo L (n + 1)) (.f f) avs = some (packAV rs) := by
  simp [callP, fnS, h1, he, h, h2]

theorem wrap64 {x : Int} (h1 : -9223372036854775808 ≤ x) (h2 : x < 9223372036854775808) : IntKind.wrap .i64 x = x := by
  simp [IntKind.wrap, IntKind.bits, IntKind.signed]
  omega

@[simp] theorem callP_box {call : CallT} {f : FuncId} {avs : List AV} (h : noBoxL avs = false) : callP call (.f f) avs = none := by simp [callP, h]
@[simp] theorem callP_y {call : CallT} {id : Nat} {avs : List AV} : callP call (.y id) avs = none := rfl

/-- Objects behind the ones that were there. -/
@[simp] theorem at_end (S l : Obs) (j : Nat) : (S ++ l)[S.length + j]? = l[j]? := by
  rw [List.getElem?_append_right (by omega)]; congr 1; omega
@[simp] theorem at_end0 (S l : Obs) : (S ++ l)[S.length]? = l[0]? := at_end S l 0
@[simp] theorem set_end (S l : Obs) (j : Nat) (x : Ob) : (S ++ l).set (S.length + j) x = S ++ l.set j x := by
  rw [List.set_append, if_neg (by omega)]; congr 2; omega
@[simp] theorem set_end0 (S l : Obs) (x : Ob) : (S ++ l).set S.length x = S ++ l.set 0 x := set_end S l 0 x

@[simp] theorem noBoxL_strs (l : List Str) : noBoxL (l.map .str) = true := noBoxL_map _ (fun _ => rfl) l

def spanL (ws : List Str) (a b : Int) : Str :=
  let tw := if (ws.length : Int) < b then (ws.length : Int) else b
  if a < 1 ∨ tw < a then [] else joinL [32] ((ws.drop (a - 1).toNat).take (tw.toNat - (a - 1).toNat))

end Go.Proofs.YtmcfnnpihlediaaGreatDoor.Ex

/- Functions without loops. -/
namespace Go.Proofs.YtmcfnnpihlediaaGreatDoor.Ex
open Go

/-- What a call is known to answer. -/
abbrev CP (call : CallT) (f : FuncId) (avs : List AV) (v : AV) : Prop := callP call (.f f) avs = some v

section
variable {call : CallT} {n : Nat} {S : Obs}

set_option maxHeartbeats 1000000 in
theorem span_spec' {t : Str} (h19 : CP call 110 [.str t] (.sl 1 ((wordsL t).map .str))) (h21 : ∀ i j, CP call 111 [.sl 1 ((((wordsL t).drop i).take j).map .str)] (.str (joinL [32] (((wordsL t).drop i).take j))))
    (t' : Str) (a b : Int) (ha : a < 1000000000000) : runFn Tryz.prog own1 call n Tryz.f135 (Tryz.f135.body.getD .skip) [.str t, .int .i64 a, .int .i64 b] S = some ([.str (spanL (wordsL t) a b)], S) := by
  simp only [CP] at h19 h21
  simp only [spanL]
  have hsz : IntKind.wrap .i64 (a - 1) = a - 1 ∨ a < 1 := by
    by_cases h : a < 1
    · exact .inr h
    · exact .inl (wrap64 (by omega) (by omega))
  have h21' : ∀ i j, callP call (.f 111) [.sl 1 ((((wordsL t).map .str).drop i).take j)] = some (.str (joinL [32] (((wordsL t).drop i).take j))) := fun i j => by
    have := h21 i j
    simpa using this
  by_cases h1 : a < 1
  · simp [runFn, Tryz.f135, h19, h1]
  · have hw : IntKind.wrap .i64 (a - 1) = a - 1 := by rcases hsz with h | h; exact h; exact absurd h h1
    have hn : (a - 1).toNat = a.toNat - 1 := by omega
    by_cases h2 : ((wordsL t).length : Int) < b
    · by_cases h3 : ((wordsL t).length : Int) < a
      · simp [runFn, Tryz.f135, h19, h1, h2, h3]
      · have h5 : 1 ≤ a ∧ a - 1 ≤ ((wordsL t).length : Int) := by omega
        simp [runFn, Tryz.f135, h19, h1, h2, h3, hw, h21', h5, hn]
    · by_cases h3 : b < a
      · simp [runFn, Tryz.f135, h19, h1, h2, h3]
      · have h5 : 1 ≤ a ∧ a - 1 ≤ b := by omega
        have h6 : 0 ≤ b ∧ b ≤ ((wordsL t).length : Int) := by omega
        have h7 : max b 0 = b := by omega
        simp [runFn, Tryz.f135, h19, h1, h2, h3, hw, h21', h5, h6, h7, hn]

end
end Go.Proofs.YtmcfnnpihlediaaGreatDoor.Ex

/- The words of a text: the closure that tells them. -/
namespace Go.Proofs.YtmcfnnpihlediaaGreatDoor.Ex
open Go

def nbl (c : UInt8) : Bool := !isBl c

theorem wordsGo_cur : ∀ (s cur : Str), cur ≠ [] → wordsGo s cur = (cur ++ s.takeWhile nbl) :: wordsL (s.dropWhile nbl)
  | [], cur, h => by simp [wordsGo, h, wordsL]
  | c :: r, cur, h => by
    by_cases hc : isBl c = true
    · simp [wordsGo, hc, h, nbl, wordsL]
    · have := wordsGo_cur r (cur ++ [c]) (by simp)
      simp [wordsGo, hc, nbl] at this ⊢
      simpa [nbl] using this

theorem wordsL_blank (c : UInt8) (r : Str) (h : isBl c = true) : wordsL (c :: r) = wordsL r := by simp [wordsL, wordsGo, h]
theorem wordsL_drop : ∀ s : Str, wordsL s = wordsL (s.dropWhile isBl)
  | [] => rfl
  | c :: r => by
    by_cases hc : isBl c = true
    · rw [wordsL_blank c r hc, wordsL_drop r]; simp [hc]
    · simp [hc]
theorem wordsL_word (c : UInt8) (r : Str) (h : isBl c = false) : wordsL (c :: r) = ((c :: r).takeWhile nbl) :: wordsL ((c :: r).dropWhile nbl) := by
  have := wordsGo_cur r [c] (by simp)
  simp [wordsL, wordsGo, h, nbl] at this ⊢
  simpa [wordsL] using this

theorem idxBl_some : ∀ (s : Str) (n : Nat), idxBl s = some n → s.take n = s.takeWhile nbl ∧ s.drop n = s.dropWhile nbl ∧ n ≤ s.length
  | [], n, h => by cases h
  | c :: r, n, h => by
    simp only [idxBl] at h
    by_cases hc : isBl c = true
    · simp [hc] at h; subst h; simp [nbl, hc]
    · simp only [hc, Bool.false_eq_true, if_false, Option.map_eq_some_iff] at h
      obtain ⟨m, hm, rfl⟩ := h
      obtain ⟨h1, h2, h3⟩ := idxBl_some r m hm
      simp [nbl, hc, h1, h2, h3]
theorem idxBl_none : ∀ (s : Str), idxBl s = none → s.takeWhile nbl = s ∧ s.dropWhile nbl = []
  | [], h => by simp
  | c :: r, h => by
    simp only [idxBl] at h
    by_cases hc : isBl c = true
    · simp [hc] at h
    · simp only [hc, Bool.false_eq_true, if_false, Option.map_eq_none_iff] at h
      obtain ⟨h1, h2⟩ := idxBl_none r h
      simp [nbl, hc, h1, h2]

/-- A part of some code. -/
def cpath : List Nat → Code → Code
  | 0 :: l, .seq a _ => cpath l a
  | _ :: l, .seq _ b => cpath l b
  | 0 :: l, .cond _ a _ => cpath l a
  | _ :: l, .cond _ _ b => cpath l b
  | _ :: l, .block _ c => cpath l c
  | _ :: l, .loop c => cpath l c
  | 0 :: l, .rangeFunc _ _ a _ => cpath l a
  | _ :: l, .rangeFunc _ _ _ b => cpath l b
  | _, c => c

section
variable {call : CallT} {n : Nat}

set_option maxHeartbeats 1000000 in
theorem words_step (h63 : ∀ s : Str, CP call 54 [.str s, .str [32, 9]] (.str (s.dropWhile isBl))) (h64 : ∀ s : Str, s.length ≤ big → CP call 51 [.str s, .str [32, 9]] (.int .i64 (intOf (idxBl s))))
    {St : List Str → Str → Obs} {b id : Nat} (hb : ∀ acc s, (St acc s)[b]? = some (.cells [.str s])) (hset : ∀ acc s s', (St acc s).set b (.cells [.str s']) = St acc s')
    (hy : ∀ acc s w, acc.length ≤ 1000000000 → call (.y id) [.str w] (St acc s) = some ([.bool true], St (acc ++ [w]) s)) (D : List Nat) (s : Str) (acc : List Str) (pf : PF) (hacc : acc.length ≤ 1000000000) (hsb : s.length ≤ big) (h0 : pf 0 = .yld id) (h1 : pf 1 = .box b 0) :
    ∃ pf', exec Tryz.prog own1 call n none 25 (cpath [0, 0] (Tryz.f165.body.getD .skip)) ⟨pf, St acc s, D⟩ =
      (if s.dropWhile isBl = [] then some (.ret, ⟨pf', St acc [], D⟩) else some (.norm, ⟨pf', St (acc ++ [(s.dropWhile isBl).takeWhile nbl]) ((s.dropWhile isBl).dropWhile nbl), D⟩)) ∧ pf' 0 = .yld id ∧ pf' 1 = .box b 0 := by
  simp only [CP] at h63 h64
  have hy' := fun s w => hy acc s w hacc
  have hyP : ∀ w, callP call (.y id) [.str w] = none := fun w => rfl
  have hlen : (s.dropWhile isBl).length ≤ big := Nat.le_trans (List.dropWhile_sublist isBl).length_le hsb
  replace h64 := h64 _ hlen
  cases hs : s.dropWhile isBl with
  | nil =>
    rw [hs] at h64
    simp [Tryz.f165, cpath, h0, h1, hb, h63, h64, hs, hset, intOf, idxBl]
  | cons c r =>
    rw [hs] at h64
    cases hi : idxBl (c :: r) with
    | none =>
      obtain ⟨e1, e2⟩ := idxBl_none _ hi
      have hpos : ¬ ((r.length : Int) + 1 < 0) := by omega
      have hp2 : (0 : Int) ≤ (r.length : Int) + 1 := by omega
      rw [e1, e2]
      simp [hp2, Tryz.f165, cpath, h0, h1, hb, h63, h64, hs, hset, intOf, hi, hyP, hy', hpos]
    | some m =>
      obtain ⟨e1, e2, e3⟩ := idxBl_some _ m hi
      have hpos : ¬ ((m : Int) < 0) := by omega
      have e3' : (m : Int) ≤ (r.length : Int) + 1 := by simp at e3; omega
      have e4 : List.take (r.length + 1 - m) (List.drop m (c :: r)) = List.drop m (c :: r) := List.take_of_length_le (by simp)
      rw [← e1, ← e2]
      simp [e3', e4, Tryz.f165, cpath, h0, h1, hb, h63, h64, hs, hset, intOf, hi, hyP, hy', hpos]

theorem words_iter (h63 : ∀ s : Str, CP call 54 [.str s, .str [32, 9]] (.str (s.dropWhile isBl))) (h64 : ∀ s : Str, s.length ≤ big → CP call 51 [.str s, .str [32, 9]] (.int .i64 (intOf (idxBl s))))
    {St : List Str → Str → Obs} {b id : Nat} (hb : ∀ acc s, (St acc s)[b]? = some (.cells [.str s])) (hset : ∀ acc s s', (St acc s).set b (.cells [.str s']) = St acc s')
    (hy : ∀ acc s w, acc.length ≤ 1000000000 → call (.y id) [.str w] (St acc s) = some ([.bool true], St (acc ++ [w]) s)) (D : List Nat) :
    ∀ (k : Nat) (s : Str) (acc : List Str) (pf : PF), acc.length + s.length ≤ 1000000000 → s.length < k → pf 0 = .yld id → pf 1 = .box b 0 →
      ∃ pf', iter (exec Tryz.prog own1 call n none 25 (cpath [0, 0] (Tryz.f165.body.getD .skip))) k ⟨pf, St acc s, D⟩ = some (.ret, ⟨pf', St (acc ++ wordsL s) [], D⟩) := by
  intro k
  induction k with
  | zero => intro s acc pf _ h; omega
  | succ k ih =>
    intro s acc pf hacc hk h0 h1
    obtain ⟨pf', he, g0, g1⟩ := words_step (n := n) h63 h64 hb hset hy D s acc pf (by omega) (by unfold big; omega) h0 h1
    simp only [iter, he]
    cases hs : s.dropWhile isBl with
    | nil =>
      have hw : wordsL s = [] := by rw [wordsL_drop, hs]; rfl
      exact ⟨pf', by simp [hw]⟩
    | cons c r =>
      have hc : isBl c = false := by
        have := List.head?_dropWhile_not isBl s
        rw [hs] at this
        simpa using this
      have hlen : (c :: r).length ≤ s.length := by rw [← hs]; exact (List.dropWhile_sublist isBl).length_le
      have hw : wordsL s = ((c :: r).takeWhile nbl) :: wordsL ((c :: r).dropWhile nbl) := by rw [wordsL_drop, hs, wordsL_word c r hc]
      have hlen3 : ((c :: r).dropWhile nbl).length ≤ r.length := by
        have e : (c :: r).dropWhile nbl = r.dropWhile nbl := by simp [nbl, hc]
        rw [e]; exact (List.dropWhile_sublist nbl).length_le
      have hlen2 : ((c :: r).dropWhile nbl).length < k := by
        have : ((c :: r).dropWhile nbl).length ≤ r.length := by
          have e : (c :: r).dropWhile nbl = r.dropWhile nbl := by simp [nbl, hc]
          rw [e]; exact (List.dropWhile_sublist nbl).length_le
        simp at hlen; omega
      obtain ⟨pf2, h2⟩ := ih ((c :: r).dropWhile nbl) (acc ++ [(c :: r).takeWhile nbl]) pf' (by simp at hlen ⊢; omega) hlen2 g0 g1
      refine ⟨pf2, ?_⟩
      rw [if_neg (by simp)]
      simp only [h2, hw, List.append_assoc, List.singleton_append]

end
end Go.Proofs.YtmcfnnpihlediaaGreatDoor.Ex

/- The words of a text, gathered. -/
namespace Go.Proofs.YtmcfnnpihlediaaGreatDoor.Ex
open Go

/-- What some functions are taken for: walked, or not. -/
class XX where
  x : Option (List AV → Option (List AV))
  y : Option (List AV → Option (List AV))
  z : Option (List AV → Option (List AV))
  c : Option (List AV → Option (List AV))
  p : Option (List AV → Option (List AV))
  m : Option (List AV → Option (List AV))

/-- What is not walked. -/
def ext0 [XX] (f : FuncId) : Option (List AV → Option (List AV)) :=
  match f with
  | 112 => XX.x
  | 144 => XX.y
  | 19 => XX.z
  | 30 => XX.m
  | 171 => some gNumber
  | 132 => some gJoin
  | 86 => some gItoa
  | 109 => some gTrim
  | 137 => some gContains
  | 147 => some gReplace
  | 54 => some gTrimLeft
  | 51 => some gIndexAny
  | 117 => some gCount
  | 32 => some gCut
  | 154 => some gCutPrefix
  | 155 => some gCutSuffix
  | 218 => some gLastByte
  | 116 => some gPush
  | _ => none

/-- A builder is written to, or read for the last time. -/
def gWrite (avs : List AV) (S : Obs) : Option (List AV × Obs) :=
  match avs with
  | [.box id off, .str t] =>
    (match S[id]? with
    | some (.bld tb te s) => if off = 0 ∧ tb = 77 ∧ te = 5 ∧ s.length + t.length ≤ 140737488355328 then some ([.int .i64 t.length, .err false], S.set id (.bld tb te (s ++ t))) else none
    | _ => none)
  | _ => none
def gString (avs : List AV) (S : Obs) : Option (List AV × Obs) :=
  match avs with
  | [.box id off] =>
    (match S[id]? with
    | some (.bld tb te s) => if off = 0 ∧ tb = 77 ∧ te = 5 then some ([.str s], S.set id .gone) else none
    | _ => none)
  | _ => none
def eo0 (f : FuncId) : Option (List AV → Obs → Option (List AV × Obs)) :=
  match f with
  | 33 => some gWrite
  | 35 => some gString
  | _ => none

/-- What is walked. -/
def fns : List FuncId := [3, 4, 5, 6, 7, 8, 9, 10, 11, 12, 13, 14, 15, 16, 17, 18, 20, 21, 22, 23, 24, 25, 26, 28, 31, 34, 36, 37, 38, 40, 41, 42, 43, 44, 49, 50, 52, 53, 55, 56, 57, 58, 60, 61, 62, 63, 65, 66, 70, 71, 81, 82, 83, 84, 87, 89, 94, 97,
  85, 95, 76, 92, 110, 111, 80, 99, 112, 113, 114, 120, 130, 131, 135, 136, 138, 139, 140, 141, 142, 143, 145, 146, 148, 90, 59, 156, 157, 158, 159, 160, 161, 162, 163, 165, 169, 170, 172, 173, 174, 175, 176, 118, 119, 91, 98, 184, 185, 186, 93, 200, 202, 203, 204, 153, 88, 122, 123, 210, 211, 121, 39, 64, 96]

noncomputable abbrev F [XX] (n : Nat) : CallT := fnS Tryz.prog own1 ext0 eo0 fns n

theorem F_fn [XX] {n : Nat} {f : FuncId} {fn : Func} {avs : List AV} {S : Obs} (he : ext0 f = none) (ho : eo0 f = none) (hL : fns.contains f = true) (hf : Tryz.prog.funcs[f]? = some fn) (hb : fn.body.isSome = true) :
    F (n + 1) (.f f) avs S = runFn Tryz.prog own1 (F n) n fn (fn.body.getD .skip) avs S := by
  obtain ⟨c, hc⟩ := Option.isSome_iff_exists.1 hb
  rw [F, fnS_fn he ho hL hf hc, hc]; rfl

theorem F_y [XX] {n id : Nat} {avs : List AV} {S : Obs} : F (n + 1) (.y id) avs S = runY Tryz.prog own1 (F n) n id avs S := rfl

theorem F_cp [XX] {n : Nat} {f : FuncId} {avs rs : List AV} {S : Obs} (h1 : noBoxL avs = true) (h2 : noBoxL rs = true) (h : F n (.f f) avs [] = some (rs, S)) : CP (F n) f avs (packAV rs) := by
  simp only [CP, callP, h1, if_true, h, h2]

theorem F_ext [XX] {n : Nat} {f : FuncId} {g : List AV → Option (List AV)} {avs rs : List AV} (he : ext0 f = some g) (h1 : noBoxL avs = true) (h2 : noBoxL rs = true) (h : g avs = some rs) : CP (F (n + 1)) f avs (packAV rs) :=
  callP_ext he h1 h2 h

theorem h63 [XX] (n : Nat) (s : Str) : CP (F (n + 1)) 54 [.str s, .str [32, 9]] (.str (s.dropWhile isBl)) := F_ext (rs := [.str (s.dropWhile isBl)]) rfl rfl rfl rfl
theorem h64 [XX] (n : Nat) (s : Str) (hs : s.length ≤ big) : CP (F (n + 1)) 51 [.str s, .str [32, 9]] (.int .i64 (intOf (idxBl s))) := F_ext (g := gIndexAny) (rs := [.int .i64 (intOf (idxBl s))]) rfl rfl rfl (by simp [gIndexAny, hs])

theorem call31 [XX] (n : Nat) (s : Str) (S : Obs) : F (n + 1) (.f 131) [.str s] S = some ([.fn 165 [] [.box S.length 0]], S ++ [.cells [.str s]]) := by
  rw [F_fn rfl rfl rfl Tryz.func131 rfl]
  simp [runFn, Tryz.f131]

theorem cp31 [XX] (n : Nat) (s : Str) : callP (F (n + 1)) (.f 131) [.str s] = none := by
  simp [callP, call31]

/-- The loop that gathers. -/
noncomputable def gatherRec (pf : PF) : LoopA := ⟨.ready, none, pf, 12, [6], cpath [1, 1, 0, 1, 0, 0] (Tryz.f130.body.getD .skip), cpath [1, 1, 0, 1, 0, 1] (Tryz.f130.body.getD .skip)⟩

noncomputable def gatherS (pf : PF) (acc : List Str) (s : Str) : Obs := [.cells [.str s], .acc 1 (acc.map .str), .dfr, .loop (gatherRec pf)]

set_option maxHeartbeats 1000000 in
theorem gather_yield [XX] (n : Nat) (pf : PF) (h3 : pf 3 = .box 1 0) (acc : List Str) (s w : Str) (hl : acc.length ≤ 1000000000) : F (n + 1) (.y 3) [.str w] (gatherS pf acc s) = some ([.bool true], gatherS pf (acc ++ [w]) s) := by
  rw [F_y]
  have hl2 : (acc.length + 1) * 16 ≤ 140737488355328 := by omega
  simp [runY, gatherS, gatherRec, Tryz.f130, cpath, busyS, doneS, h3, hl2]

theorem wordsGo_len : ∀ (s cur : Str), (wordsGo s cur).length ≤ s.length + 1
  | [], cur => by simp only [wordsGo]; split <;> simp
  | c :: r, cur => by
    simp only [wordsGo]
    split
    · split
      · have := wordsGo_len r []; simp; omega
      · have := wordsGo_len r []; simp; omega
    · have := wordsGo_len r (cur ++ [c]); simp; omega
theorem wordsL_len (s : Str) : (wordsL s).length ≤ s.length + 1 := wordsGo_len s []

theorem words_run [XX] (n : Nat) (pf : PF) (h3 : pf 3 = .box 1 0) (s : Str) (hs : s.length ≤ 1000000000) (hn : s.length < n) :
    F (n + 2) (.f 165) [.yld 3, .box 0 0] (gatherS pf [] s) = some ([], gatherS pf (wordsL s) []) := by
  rw [F_fn rfl rfl rfl Tryz.func165 rfl]
  obtain ⟨pf', h⟩ := words_iter (call := F (n + 1)) (n := n + 1) (St := gatherS pf) (b := 0) (id := 3) (h63 n) (h64 n) (fun _ _ => rfl) (fun _ _ _ => rfl) (fun acc s w h => gather_yield n pf h3 acc s w h) []
    (n + 1) s [] (initPF [.yld 3, .box 0 0]) (by simpa using hs) (by omega) rfl rfl
  simp only [Tryz.f165, cpath, Option.getD_some] at h
  simp [runFn, Tryz.f165, h]

set_option maxHeartbeats 1000000 in
theorem call30 [XX] (n : Nat) (s : Str) (hs : s.length ≤ 1000000000) (hn : s.length < n) :
    F (n + 3) (.f 130) [.fn 165 [] [.box 0 0]] [.cells [.str s]] = some ([.sl 1 ((wordsL s).map .str)], [.cells [.str []], .cells [.sl 1 ((wordsL s).map .str)], .gone, .gone]) := by
  rw [F_fn rfl rfl rfl Tryz.func130 rfl]
  have hw := fun pf h3 => words_run n pf h3 s hs hn
  simp only [gatherS, gatherRec, Tryz.f130, cpath, Option.getD_some, List.map_nil] at hw
  simp [runFn, Tryz.f130, hw]

set_option maxHeartbeats 1000000 in
theorem cp19 [XX] (n : Nat) (s : Str) (hs : s.length ≤ 1000000000) (hn : s.length + 4 < n) : CP (F n) 110 [.str s] (.sl 1 ((wordsL s).map .str)) := by
  obtain ⟨m, rfl⟩ : ∃ m, n = m + 4 := ⟨n - 4, by omega⟩
  refine F_cp (rs := [.sl 1 ((wordsL s).map .str)]) (S := [.cells [.str []], .cells [.sl 1 ((wordsL s).map .str)], .gone, .gone]) rfl (by simp) ?_
  rw [F_fn rfl rfl rfl Tryz.func110 rfl]
  simp [runFn, Tryz.f110, cp31, call31, call30 m s hs (by omega)]

end Go.Proofs.YtmcfnnpihlediaaGreatDoor.Ex

/- Join; a list's values told one by one. -/
namespace Go.Proofs.YtmcfnnpihlediaaGreatDoor.Ex
open Go

@[simp] theorem strsOf_map : ∀ l : List Str, strsOf (l.map .str) = some l
  | [] => rfl
  | x :: r => by simp [strsOf, strsOf_map r]

theorem cp32 [XX] (n : Nat) (l : List Str) (sep : Str) (h : (joinL sep l).length ≤ lim) (h2 : l.length ≤ lim + lim) : CP (F (n + 1)) 132 [.sl 1 (l.map .str), .str sep] (.str (joinL sep l)) :=
  F_ext (g := gJoin) (rs := [.str (joinL sep l)]) rfl (by simp) rfl (by simp [gJoin, h, h2])

theorem cp21 [XX] (n : Nat) (l : List Str) (h : (joinL [32] l).length ≤ lim) : CP (F (n + 2)) 111 [.sl 1 (l.map .str)] (.str (joinL [32] l)) := by
  refine F_cp (rs := [.str (joinL [32] l)]) (S := []) (by simp) rfl ?_
  rw [F_fn rfl rfl rfl Tryz.func111 rfl]
  have h32 := cp32 n l [32] h (by
    rcases join_length l with h1 | h1
    · unfold lim at *; omega
    · subst h1; simp)
  simp only [CP] at h32
  simp [runFn, Tryz.f111, h32]

theorem call85 [XX] (n : Nat) (l : List Str) (S : Obs) : F (n + 1) (.f 174) [.sl 1 (l.map .str)] S = some ([.fn 203 [] [.box S.length 0]], S ++ [.cells [.sl 1 (l.map .str)]]) := by
  rw [F_fn rfl rfl rfl Tryz.func174 rfl]
  simp [runFn, Tryz.f174]
theorem cp85 [XX] (n : Nat) (l : List Str) : callP (F (n + 1)) (.f 174) [.sl 1 (l.map .str)] = none := by
  simp [callP, call85]

theorem call44 [XX] (n : Nat) (t : Str) (S : Obs) (hs : t.length ≤ 1000000000) (hn : t.length + 4 < n) :
    F (n + 1) (.f 141) [.str t] S = some ([.fn 203 [] [.box S.length 0]], S ++ [.cells [.sl 1 ((wordsL t).map .str)]]) := by
  obtain ⟨m, rfl⟩ : ∃ m, n = m + 1 := ⟨n - 1, by omega⟩
  rw [F_fn rfl rfl rfl Tryz.func141 rfl]
  have h19 := cp19 (m + 1) t hs hn
  simp only [CP] at h19
  simp [runFn, Tryz.f141, h19, cp85, call85]
theorem cp44 [XX] (n : Nat) (t : Str) (hs : t.length ≤ 1000000000) (hn : t.length + 4 < n) : callP (F (n + 1)) (.f 141) [.str t] = none := by
  simp [callP, call44 n t _ hs hn]

theorem call43 [XX] (n : Nat) (c c' : FuncId) (fs cs fs' cs' : List AV) (S : Obs) :
    F (n + 1) (.f 140) [.fn c fs cs, .fn c' fs' cs'] S = some ([.fn 173 [] [.box S.length 0, .box (S.length + 1) 0]], S ++ [.cells [.fn c fs cs], .cells [.fn c' fs' cs']]) := by
  rw [F_fn rfl rfl rfl Tryz.func140 rfl]
  simp [runFn, Tryz.f140]

section
variable {call : CallT} {n : Nat}

set_option maxHeartbeats 1000000 in
theorem vals_step {ws : List Str} {S S' : Obs} {D : List Nat} {id i : Nat} {pf : PF} (h0 : pf 0 = .yld id) (h5 : pf 5 = .sl 1 (ws.map .str)) (h6 : pf 6 = .int .i64 ws.length) (h7 : pf 7 = .int .i64 i)
    (hi : i < ws.length) (hlen : ws.length ≤ 1000000000) (hy : call (.y id) [.str ws[i]] S = some ([.bool true], S')) :
    ∃ pf', exec Tryz.prog own1 call n none 16 (cpath [1, 0, 0] (Tryz.f203.body.getD .skip)) ⟨pf, S, D⟩ = some (.norm, ⟨pf', S', D⟩) ∧
      pf' 0 = .yld id ∧ pf' 5 = .sl 1 (ws.map .str) ∧ pf' 6 = .int .i64 ws.length ∧ pf' 7 = .int .i64 (i + 1 : Nat) := by
  have hw : IntKind.wrap .i64 ((i : Int) + 1) = (i : Int) + 1 := wrap64 (by omega) (by omega)
  simp [Tryz.f203, cpath, h0, h5, h6, h7, hi, hy, hw]

theorem vals_end {ws : List Str} {S : Obs} {D : List Nat} {pf : PF} (h6 : pf 6 = .int .i64 ws.length) (h7 : pf 7 = .int .i64 ws.length) :
    ∃ pf', exec Tryz.prog own1 call n none 16 (cpath [1, 0, 0] (Tryz.f203.body.getD .skip)) ⟨pf, S, D⟩ = some (.ex 0, ⟨pf', S, D⟩) := by
  simp [Tryz.f203, cpath, h6, h7]

theorem vals_iter {ws : List Str} {T : Nat → Obs} {D : List Nat} {id : Nat} (hlen : ws.length ≤ 1000000000) (hy : ∀ i (h : i < ws.length), call (.y id) [.str ws[i]] (T i) = some ([.bool true], T (i + 1))) :
    ∀ (k i : Nat) (pf : PF), i + k = ws.length → pf 0 = .yld id → pf 5 = .sl 1 (ws.map .str) → pf 6 = .int .i64 ws.length → pf 7 = .int .i64 i → ∀ m, k < m →
      ∃ pf', iter (exec Tryz.prog own1 call n none 16 (cpath [1, 0, 0] (Tryz.f203.body.getD .skip))) m ⟨pf, T i, D⟩ = some (.ex 0, ⟨pf', T ws.length, D⟩) := by
  intro k
  induction k with
  | zero =>
    intro i pf hi h0 h5 h6 h7 m hm
    obtain ⟨m, rfl⟩ : ∃ m', m = m' + 1 := ⟨m - 1, by omega⟩
    have : i = ws.length := by omega
    subst this
    obtain ⟨pf', he⟩ := vals_end (call := call) (n := n) (S := T ws.length) (D := D) h6 h7
    exact ⟨pf', by simp only [iter, he]⟩
  | succ k ih =>
    intro i pf hi h0 h5 h6 h7 m hm
    obtain ⟨m, rfl⟩ : ∃ m', m = m' + 1 := ⟨m - 1, by omega⟩
    have hlt : i < ws.length := by omega
    obtain ⟨pf1, he, g0, g5, g6, g7⟩ := vals_step (call := call) (n := n) (D := D) h0 h5 h6 h7 hlt hlen (hy i hlt)
    obtain ⟨pf2, h2⟩ := ih (i + 1) pf1 (by omega) g0 g5 g6 g7 m (by omega)
    exact ⟨pf2, by simp only [iter, he, h2]⟩

end

theorem call126 [XX] (n : Nat) {ws : List Str} {T : Nat → Obs} {b id : Nat} (hlen : ws.length ≤ 1000000000) (hn : ws.length < n) (hb : (T 0)[b]? = some (.cells [.sl 1 (ws.map .str)]))
    (hy : ∀ i (h : i < ws.length), F n (.y id) [.str ws[i]] (T i) = some ([.bool true], T (i + 1))) : F (n + 1) (.f 203) [.yld id, .box b 0] (T 0) = some ([], T ws.length) := by
  rw [F_fn rfl rfl rfl Tryz.func203 rfl]
  obtain ⟨pf', h⟩ := vals_iter (call := F n) (n := n) (D := []) hlen hy ws.length 0
    (upd (upd (upd (initPF [.yld id, .box b 0]) 5 (.sl 1 (ws.map .str))) 6 (.int .i64 ws.length)) 7 (.int .i64 0)) (by omega) rfl rfl rfl rfl n hn
  simp only [Tryz.f203, cpath, Option.getD_some] at h
  simp [runFn, Tryz.f203, hb, h]

end Go.Proofs.YtmcfnnpihlediaaGreatDoor.Ex

/- What a closure keeps of each word, told as one text. -/
namespace Go.Proofs.YtmcfnnpihlediaaGreatDoor.Ex
open Go

noncomputable def rec125 (pf : PF) : LoopA := ⟨.ready, none, pf, 13, [7], cpath [1, 0, 1, 0, 0] (Tryz.f202.body.getD .skip), cpath [1, 0, 1, 0, 1] (Tryz.f202.body.getD .skip)⟩
noncomputable def rec84 (pf : PF) : LoopA := ⟨.ready, none, pf, 22, [8], cpath [1, 1, 0, 0] (Tryz.f173.body.getD .skip), cpath [1, 1, 0, 1] (Tryz.f173.body.getD .skip)⟩

noncomputable def toldS (S0 : Obs) (ws : List Str) (clos : AV) (p q : PF) (acc : List Str) : Obs :=
  S0 ++ [.cells [.sl 1 (ws.map .str)], .cells [.fn 203 [] [.box S0.length 0]], .cells [clos], .acc 1 (acc.map .str), .dfr, .loop (rec125 p), .cells [.yld (S0.length + 5)], .dfr, .loop (rec84 q)]

section
variable {n : Nat} {S0 : Obs} {ws : List Str} {clos : AV} {p q : PF}

set_option maxHeartbeats 1000000 in
theorem told_y5 [XX] (hp : p 2 = .box (S0.length + 3) 0) (acc : List Str) (w : Str) (hl : acc.length ≤ 1000000000) (x : LoopA) :
    F (n + 1) (.y (S0.length + 5)) [.str w] (S0 ++ [.cells [.sl 1 (ws.map .str)], .cells [.fn 203 [] [.box S0.length 0]], .cells [clos], .acc 1 (acc.map .str), .dfr, .loop (rec125 p), .cells [.yld (S0.length + 5)], .dfr, .loop x]) =
      some ([.bool true], S0 ++ [.cells [.sl 1 (ws.map .str)], .cells [.fn 203 [] [.box S0.length 0]], .cells [clos], .acc 1 (acc.map .str ++ [.str w]), .dfr, .loop (rec125 p), .cells [.yld (S0.length + 5)], .dfr, .loop x]) := by
  rw [F_y]
  have hl2 : (acc.length + 1) * 16 ≤ 140737488355328 := by omega
  simp [runY, rec125, Tryz.f202, cpath, busyS, doneS, hp, hl2]

set_option maxHeartbeats 1000000 in
theorem told_y8 [XX] {c : FuncId} {caps : List AV} {g : Str → Str × Bool} (hp : p 2 = .box (S0.length + 3) 0) (hq2 : q 2 = .box (S0.length + 2) 0) (hq3 : q 3 = .box (S0.length + 6) 0) (acc : List Str) (w : Str) (hl : acc.length ≤ 1000000000)
    (hP : callP (F (n + 1)) (.f c) (.str w :: caps) = none)
    (hc : ∀ x, F (n + 1) (.f c) (.str w :: caps) (S0 ++ [.cells [.sl 1 (ws.map .str)], .cells [.fn 203 [] [.box S0.length 0]], .cells [.fn c [] caps], .acc 1 (acc.map .str), .dfr, .loop (rec125 p), .cells [.yld (S0.length + 5)], .dfr, .loop x]) =
      some ([.str (g w).1, .bool (g w).2], S0 ++ [.cells [.sl 1 (ws.map .str)], .cells [.fn 203 [] [.box S0.length 0]], .cells [.fn c [] caps], .acc 1 (acc.map .str), .dfr, .loop (rec125 p), .cells [.yld (S0.length + 5)], .dfr, .loop x])) :
    F (n + 2) (.y (S0.length + 8)) [.str w] (toldS S0 ws (.fn c [] caps) p q acc) = some ([.bool true], toldS S0 ws (.fn c [] caps) p q (acc ++ if (g w).2 then [(g w).1] else [])) := by
  rw [F_y]
  cases hg : (g w).2 with
  | false =>
    simp [runY, toldS, rec84, Tryz.f173, cpath, busyS, doneS, hq2, hq3, hP, hc, hg]
  | true =>
    have h5 := told_y5 (n := n) (ws := ws) (clos := .fn c [] caps) hp acc (g w).1 hl
    simp [runY, toldS, rec84, Tryz.f173, cpath, busyS, doneS, hq2, hq3, hP, hc, hg, h5]

end
end Go.Proofs.YtmcfnnpihlediaaGreatDoor.Ex

/- The words that a closure keeps, told as one text: the whole. -/
namespace Go.Proofs.YtmcfnnpihlediaaGreatDoor.Ex
open Go

/-- What is kept of a word. -/
def keepL (g : Str → Str × Bool) (w : Str) : List Str := if (g w).2 then [(g w).1] else []

/-- A closure that turns a word, and touches nothing. -/
def ClosOK [XX] (n : Nat) (S0 : Obs) (ws : List Str) (c : FuncId) (caps : List AV) (g : Str → Str × Bool) : Prop :=
  ∀ w ∈ ws, callP (F n) (.f c) (.str w :: caps) = none ∧ ∀ l, F n (.f c) (.str w :: caps) (S0 ++ l) = some ([.str (g w).1, .bool (g w).2], S0 ++ l)

theorem keep_len (g : Str → Str × Bool) : ∀ l : List Str, (l.flatMap (keepL g)).length ≤ l.length
  | [] => by simp
  | x :: r => by
    have := keep_len g r
    have h1 : (keepL g x).length ≤ 1 := by unfold keepL; split <;> simp
    rw [List.flatMap_cons, List.length_append, List.length_cons]; omega

section
variable {n : Nat} {S0 : Obs} {ws : List Str} {p q : PF} {c : FuncId} {caps : List AV} {g : Str → Str × Bool}

theorem told_run [XX] (hp : p 2 = .box (S0.length + 3) 0) (hq2 : q 2 = .box (S0.length + 2) 0) (hq3 : q 3 = .box (S0.length + 6) 0) (hl : ws.length ≤ 1000000000) (hn : ws.length < n) (hc : ClosOK (n + 1) S0 ws c caps g) :
    F (n + 3) (.f 203) [.yld (S0.length + 8), .box S0.length 0] (toldS S0 ws (.fn c [] caps) p q []) = some ([], toldS S0 ws (.fn c [] caps) p q (ws.flatMap (keepL g))) := by
  have := call126 (n + 2) (ws := ws) (T := fun i => toldS S0 ws (.fn c [] caps) p q ((ws.take i).flatMap (keepL g))) (b := S0.length) (id := S0.length + 8) hl (by omega) (by simp [toldS]) (fun i hi => by
    have hm : ws[i] ∈ ws := List.getElem_mem hi
    have hlen : ((ws.take i).flatMap (keepL g)).length ≤ 1000000000 := by
      have := keep_len g (ws.take i)
      rw [List.length_take] at this; omega
    have h8 := told_y8 (n := n) (S0 := S0) (ws := ws) (p := p) (q := q) (c := c) (caps := caps) (g := g) hp hq2 hq3 ((ws.take i).flatMap (keepL g)) ws[i] hlen (hc _ hm).1 (fun x => (hc _ hm).2 _)
    rw [h8, List.take_succ_eq_append_getElem hi, List.flatMap_append]
    simp [keepL])
  simpa using this

set_option maxHeartbeats 2000000 in
theorem call84 [XX] (hp : p 2 = .box (S0.length + 3) 0) (hl : ws.length ≤ 1000000000) (hn : ws.length < n) (hc : ClosOK (n + 1) S0 ws c caps g) :
    F (n + 4) (.f 173) [.yld (S0.length + 5), .box (S0.length + 1) 0, .box (S0.length + 2) 0]
      (S0 ++ [.cells [.sl 1 (ws.map .str)], .cells [.fn 203 [] [.box S0.length 0]], .cells [.fn c [] caps], .acc 1 [], .dfr, .loop (rec125 p)]) =
      some ([], S0 ++ [.cells [.sl 1 (ws.map .str)], .cells [.fn 203 [] [.box S0.length 0]], .cells [.fn c [] caps], .acc 1 ((ws.flatMap (keepL g)).map .str), .dfr, .loop (rec125 p), .cells [.yld (S0.length + 5)], .gone, .gone]) := by
  rw [F_fn rfl rfl rfl Tryz.func173 rfl]
  have hr := fun q hq2 hq3 => told_run (p := p) (q := q) hp hq2 hq3 hl hn hc
  simp only [toldS, rec84, Tryz.f173, cpath, Option.getD_some, List.map_nil] at hr
  simp [runFn, Tryz.f173, hr]

set_option maxHeartbeats 2000000 in
theorem call125 [XX] (hl : ws.length ≤ 1000000000) (hn : ws.length < n) (hc : ClosOK (n + 1) S0 ws c caps g) :
    ∃ S', F (n + 5) (.f 202) [.nils, .fn 173 [] [.box (S0.length + 1) 0, .box (S0.length + 2) 0]] (S0 ++ [.cells [.sl 1 (ws.map .str)], .cells [.fn 203 [] [.box S0.length 0]], .cells [.fn c [] caps]]) =
      some ([.sl 1 ((ws.flatMap (keepL g)).map .str)], S') := by
  rw [F_fn rfl rfl rfl Tryz.func202 rfl]
  have hr := fun p hp => call84 (p := p) hp hl hn hc
  simp only [rec125, Tryz.f202, cpath, Option.getD_some] at hr
  simp [runFn, Tryz.f202, hr]

end
end Go.Proofs.YtmcfnnpihlediaaGreatDoor.Ex

/- What is told of a list's words; the closures. -/
namespace Go.Proofs.YtmcfnnpihlediaaGreatDoor.Ex
open Go

section
variable {n : Nat} {S0 : Obs} {ws : List Str} {c : FuncId} {caps : List AV} {g : Str → Str × Bool}

set_option maxHeartbeats 2000000 in
theorem call83 [XX] (hl : ws.length ≤ 1000000000) (hn : ws.length < n) (hc : ClosOK (n + 1) S0 ws c caps g) :
    ∃ S', F (n + 6) (.f 172) [.fn 173 [] [.box (S0.length + 1) 0, .box (S0.length + 2) 0]] (S0 ++ [.cells [.sl 1 (ws.map .str)], .cells [.fn 203 [] [.box S0.length 0]], .cells [.fn c [] caps]]) =
      some ([.sl 1 ((ws.flatMap (keepL g)).map .str)], S') := by
  rw [F_fn rfl rfl rfl Tryz.func172 rfl]
  obtain ⟨S', h⟩ := call125 hl hn hc
  refine ⟨S', ?_⟩
  simp [runFn, Tryz.f172, h]

set_option maxHeartbeats 2000000 in
theorem call42 [XX] (hl : ws.length ≤ 1000000000) (hn : ws.length < n) (hc : ClosOK (n + 1) S0 ws c caps g) (hj : (joinL [32] (ws.flatMap (keepL g))).length ≤ lim) :
    ∃ S', F (n + 7) (.f 139) [.fn 173 [] [.box (S0.length + 1) 0, .box (S0.length + 2) 0]] (S0 ++ [.cells [.sl 1 (ws.map .str)], .cells [.fn 203 [] [.box S0.length 0]], .cells [.fn c [] caps]]) =
      some ([.str (joinL [32] (ws.flatMap (keepL g))), .bool true], S') := by
  rw [F_fn rfl rfl rfl Tryz.func139 rfl]
  obtain ⟨S', h⟩ := call83 hl hn hc
  refine ⟨S', ?_⟩
  have h21 := cp21 (n + 4) _ hj
  simp only [CP] at h21
  simp [runFn, Tryz.f139, h, h21]

end

theorem clos45 [XX] (n : Nat) (a : Str) (ws : List Str) (h : ∀ w ∈ ws, w.length + a.length ≤ 1000000000) : ClosOK (n + 1) [.cells [.str a]] ws 142 [.box 0 0] (fun w => (w ++ a, true)) := by
  intro w hw
  have h1 := h w hw
  refine ⟨by simp, fun l => ?_⟩
  have h2 : w.length + a.length ≤ 9223372036854775807 := by omega
  rw [F_fn rfl rfl rfl Tryz.func142 rfl]
  simp [runFn, Tryz.f142, h2]

theorem clos46 [XX] (n : Nat) (a : Str) (ws : List Str) (h : ∀ w ∈ ws, w.length + a.length ≤ 1000000000) : ClosOK (n + 1) [.cells [.str a]] ws 143 [.box 0 0] (fun w => (a ++ w, true)) := by
  intro w hw
  have h1 := h w hw
  refine ⟨by simp, fun l => ?_⟩
  have h2 : a.length + w.length ≤ 9223372036854775807 := by omega
  rw [F_fn rfl rfl rfl Tryz.func143 rfl]
  simp [runFn, Tryz.f143, h2]

/-! ### A path's pieces -/
def atL (w : Str) : Nat := match lastOf 47 w with | some i => i + 1 | none => 0
def baseL (w : Str) : Str × Str × Str :=
  match lastOf 46 (w.drop (atL w)) with
  | none => (w.take (atL w), w.drop (atL w), [])
  | some d => (w.take (atL w), (w.drop (atL w)).take d, (w.drop (atL w)).drop d)

theorem lastOf_lt : ∀ (c : UInt8) (s : Str) (i : Nat), lastOf c s = some i → i < s.length
  | c, [], i, h => by cases h
  | c, d :: r, i, h => by
    simp only [lastOf] at h
    split at h
    · rename_i j hj
      injection h with h; subst h
      have := lastOf_lt c r j hj
      simp; omega
    · split at h
      · injection h with h; subst h; simp
      · cases h

theorem atL_le (w : Str) : atL w ≤ w.length := by
  unfold atL
  split
  · rename_i i h; have := lastOf_lt _ _ _ h; omega
  · omega

@[simp] theorem take_rest {α : Type} (l : List α) (k : Nat) : List.take (l.length - k) (List.drop k l) = List.drop k l := List.take_of_length_le (by simp)

theorem cp158 [XX] (n : Nat) (s : Str) (c : UInt8) (hs : s.length ≤ big) : CP (F (n + 1)) 218 [.str s, .int .u8 c.toNat] (.int .i64 (intOf (lastOf c s))) :=
  F_ext (g := gLastByte) (rs := [.int .i64 (intOf (lastOf c s))]) rfl rfl rfl (by
    have h1 : c.toNat < 256 := c.toNat_lt
    have h2 : (0 : Int) ≤ c.toNat ∧ (c.toNat : Int) < 256 := by omega
    simp only [gLastByte, h2, hs, and_self, if_true]
    simp)

@[simp] theorem intOf_some (n : Nat) : intOf (some n) = n := rfl
@[simp] theorem intOf_none : intOf none = -1 := rfl

theorem call123 [XX] (n : Nat) (w : Str) (hw : w.length ≤ 1000000000) : F (n + 2) (.f 200) [.str w] [] = some ([.str (baseL w).1, .str (baseL w).2.1, .str (baseL w).2.2], []) := by
  rw [F_fn rfl rfl rfl Tryz.func200 rfl]
  have h1 := cp158 n w 47 (by unfold big; omega)
  have h2 := cp158 n (w.drop (atL w)) 46 (by unfold big; simp; omega)
  simp only [CP] at h1 h2
  have e1 : ((47 : UInt8).toNat : Int) = 47 := rfl
  have e2 : ((46 : UInt8).toNat : Int) = 46 := rfl
  rw [e1] at h1
  simp only [e2] at h2
  have hat : IntKind.wrap .i64 (intOf (lastOf 47 w) + 1) = (atL w : Int) := by
    have := atL_le w
    unfold atL intOf at *
    cases h : lastOf 47 w with
    | none => simp [h]; exact wrap64 (by omega) (by omega)
    | some i => simp [h] at this ⊢; exact wrap64 (by omega) (by omega)
  have hle := atL_le w
  have hle' : (atL w : Int) ≤ (w.length : Int) := by omega
  unfold baseL
  cases hd : lastOf 46 (w.drop (atL w)) with
  | none =>
    simp [runFn, Tryz.f200, h1, h2, hat, hle', hd]
  | some d =>
    have hd1 := lastOf_lt _ _ _ hd
    have hd2 : ¬ ((d : Int) < 0) := by omega
    have hw2 : IntKind.wrap .i64 ((atL w : Int) + (d : Int)) = (atL w : Int) + (d : Int) := wrap64 (by omega) (by simp at hd1; omega)
    have hd3 : (atL w : Int) + (d : Int) ≤ (w.length : Int) := by simp at hd1; omega
    have hd4 : 0 ≤ (atL w : Int) + (d : Int) := by omega
    have hd5 : ((atL w : Int) + (d : Int)).toNat = atL w + d := by omega
    have hd6 : (atL w : Int) ≤ (atL w : Int) + (d : Int) := by omega
    simp [runFn, Tryz.f200, h1, h2, hat, hle', hd, hd2, hw2, hd3, hd4, hd5, hd6]

theorem baseL_len (w : Str) : (baseL w).1.length ≤ w.length ∧ (baseL w).2.1.length ≤ w.length ∧ (baseL w).2.2.length ≤ w.length := by
  unfold baseL
  split <;> simp <;> omega

theorem bstr (a b : Str) : (a == b) = decide (a = b) := by by_cases h : a = b <;> simp [h]

/-- One piece of a path, by its name. -/
def partL (name w : Str) : Str :=
  if name = [100, 105, 114] then (if (baseL w).1 = [] then [46, 47] else (baseL w).1)
  else if name = [110, 111, 116, 100, 105, 114] then (baseL w).2.1 ++ (baseL w).2.2
  else if name = [115, 117, 102, 102, 105, 120] then (baseL w).2.2
  else (baseL w).1 ++ (baseL w).2.1

set_option maxHeartbeats 1000000 in
theorem cp81 [XX] (n : Nat) (name w : Str) (hw : w.length ≤ 1000000000) : CP (F (n + 3)) 170 [.str name, .str w] (.str (partL name w)) := by
  refine F_cp (rs := [.str (partL name w)]) (S := []) rfl rfl ?_
  rw [F_fn rfl rfl rfl Tryz.func170 rfl]
  have h123 : callP (F (n + 2)) (.f 200) [.str w] = some (.tup [.str (baseL w).1, .str (baseL w).2.1, .str (baseL w).2.2]) := by
    simp [callP, call123 n w hw]
  obtain ⟨l1, l2, l3⟩ := baseL_len w
  have k1 : (baseL w).2.1.length + (baseL w).2.2.length ≤ 9223372036854775807 := by omega
  have k2 : (baseL w).1.length + (baseL w).2.1.length ≤ 9223372036854775807 := by omega
  unfold partL
  by_cases a1 : name = [100, 105, 114]
  · subst a1
    by_cases a2 : (baseL w).1 = []
    · simp [runFn, Tryz.f170, h123, a2]
    · simp [runFn, Tryz.f170, h123, a2]
  · by_cases a3 : name = [110, 111, 116, 100, 105, 114]
    · subst a3
      simp [runFn, Tryz.f170, h123, bstr, k1]
    · by_cases a4 : name = [115, 117, 102, 102, 105, 120]
      · subst a4
        simp [runFn, Tryz.f170, bstr, h123]
      · simp [runFn, Tryz.f170, h123, bstr, a1, a3, a4, k2]

theorem clos80 [XX] (n : Nat) (name : Str) (ws : List Str) (h : ∀ w ∈ ws, w.length ≤ 1000000000) : ClosOK (n + 4) [.cells [.str name]] ws 169 [.box 0 0] (fun w => (partL name w, partL name w != [])) := by
  intro w hw
  refine ⟨by simp, fun l => ?_⟩
  have h81 := cp81 n name w (h w hw)
  simp only [CP] at h81
  rw [F_fn rfl rfl rfl Tryz.func169 rfl]
  simp [runFn, Tryz.f169, h81]
  cases partL name w <;> rfl

end Go.Proofs.YtmcfnnpihlediaaGreatDoor.Ex

/- Patterns. -/
namespace Go.Proofs.YtmcfnnpihlediaaGreatDoor.Ex
open Go

def cntL (p : Str) : Nat := p.countP (· == 37)
def rightL (p : Str) : Bool := p != [] && decide (cntL p ≤ 1)
def openL (p : Str) : Bool := decide (cntL p = 1)
def cutL (p : Str) : Str × Str × Bool :=
  match idxOf 37 p with
  | some i => (p.take i, p.drop (i + 1), true)
  | none => (p, [], false)
def cutPre (s p : Str) : Str × Bool := if isPre p s then (s.drop p.length, true) else (s, false)
def cutSuf (s p : Str) : Str × Bool := if isPre p.reverse s.reverse then (s.take (s.length - p.length), true) else (s, false)

def matchL (p s : Str) : Str × Bool :=
  if rightL p then
    if (cutL p).2.2 then
      if (cutPre s (cutL p).1).2 && (cutSuf (cutPre s (cutL p).1).1 (cutL p).2.1).2 then ((cutSuf (cutPre s (cutL p).1).1 (cutL p).2.1).1, true) else ([], false)
    else ([], p == s)
  else ([], false)

def fillL (p stem : Str) : Str := if openL p then (cutL p).1 ++ stem ++ (cutL p).2.1 else p
def substL (p q s : Str) : Str := if (matchL p s).2 then fillL q (matchL p s).1 else s

theorem cp128 [XX] (n : Nat) (p : Str) : CP (F (n + 1)) 117 [.str p, .str [37]] (.int .i64 (cntL p)) :=
  F_ext (g := gCount) (rs := [.int .i64 (cntL p)]) rfl rfl rfl rfl
theorem cp129 [XX] (n : Nat) (p : Str) (hp : p.length ≤ big) : CP (F (n + 1)) 32 [.str p, .str [37]] (.tup [.str (cutL p).1, .str (cutL p).2.1, .bool (cutL p).2.2]) :=
  F_ext (g := gCut) (rs := [.str (cutL p).1, .str (cutL p).2.1, .bool (cutL p).2.2]) rfl rfl rfl (by
    have hp' : ¬ big < p.length := by omega
    simp only [gCut, cutL, hp', if_false]; cases idxOf 37 p <;> rfl)
theorem cp131 [XX] (n : Nat) (s p : Str) : CP (F (n + 1)) 154 [.str s, .str p] (.tup [.str (cutPre s p).1, .bool (cutPre s p).2]) :=
  F_ext (g := gCutPrefix) (rs := [.str (cutPre s p).1, .bool (cutPre s p).2]) rfl rfl rfl (by
    simp only [gCutPrefix, cutPre]; cases isPre p s <;> rfl)
theorem cp132 [XX] (n : Nat) (s p : Str) (hs : s.length ≤ big) : CP (F (n + 1)) 155 [.str s, .str p] (.tup [.str (cutSuf s p).1, .bool (cutSuf s p).2]) :=
  F_ext (g := gCutSuffix) (rs := [.str (cutSuf s p).1, .bool (cutSuf s p).2]) rfl rfl rfl (by
    have hs' : ¬ big < s.length := by omega
    simp only [gCutSuffix, cutSuf, hs', if_false]; cases isPre p.reverse s.reverse <;> rfl)

theorem cp130 [XX] (n : Nat) (p : Str) : CP (F (n + 2)) 153 [.str p] (.bool (rightL p)) := by
  refine F_cp (rs := [.bool (rightL p)]) (S := []) rfl rfl ?_
  rw [F_fn rfl rfl rfl Tryz.func153 rfl]
  have h := cp128 n p
  simp only [CP] at h
  unfold rightL
  have e : ((cntL p : Int) ≤ 1) ↔ cntL p ≤ 1 := by omega
  cases p with
  | nil => simp [runFn, Tryz.f153]
  | cons c r => simp [runFn, Tryz.f153, h, e]

theorem cp133 [XX] (n : Nat) (p : Str) : CP (F (n + 2)) 88 [.str p] (.bool (openL p)) := by
  refine F_cp (rs := [.bool (openL p)]) (S := []) rfl rfl ?_
  rw [F_fn rfl rfl rfl Tryz.func88 rfl]
  have h := cp128 n p
  simp only [CP] at h
  unfold openL
  have e : ((cntL p : Int) = 1) ↔ cntL p = 1 := by omega
  have e2 : ((cntL p : Int) == 1) = decide (cntL p = 1) := by rw [← decide_eq_decide.2 e]; rfl
  simp [runFn, Tryz.f88, h, e2]

set_option maxHeartbeats 1000000 in
theorem cp89 [XX] (n : Nat) (p s : Str) (hp : p.length ≤ big) (hs : s.length ≤ big) : CP (F (n + 3)) 118 [.str p, .str s] (.tup [.str (matchL p s).1, .bool (matchL p s).2]) := by
  refine F_cp (rs := [.str (matchL p s).1, .bool (matchL p s).2]) (S := []) rfl rfl ?_
  rw [F_fn rfl rfl rfl Tryz.func118 rfl]
  have h129 := cp129 (n + 1) p hp
  have h130 := cp130 n p
  have h131 := fun p => cp131 (n + 1) s p
  have h132 := fun p => cp132 (n + 1) (cutPre s (cutL p).1).1 (cutL p).2.1 (by unfold cutPre; split <;> simp <;> omega)
  replace h132 := h132 p
  simp only [CP] at h129 h130 h131 h132
  unfold matchL
  cases hr : rightL p with
  | false => simp [runFn, Tryz.f118, h129, h130, hr]
  | true =>
    cases ho : (cutL p).2.2 with
    | false => simp [runFn, Tryz.f118, h129, h130, hr, ho]
    | true =>
      cases h1 : (cutPre s (cutL p).1).2 with
      | false => simp [runFn, Tryz.f118, h129, h130, h131, h132, hr, ho, h1]
      | true =>
        cases h2 : (cutSuf (cutPre s (cutL p).1).1 (cutL p).2.1).2 with
        | false => simp [runFn, Tryz.f118, h129, h130, h131, h132, hr, ho, h1, h2]
        | true => simp [runFn, Tryz.f118, h129, h130, h131, h132, hr, ho, h1, h2]

theorem cutL_len (p : Str) : (cutL p).1.length ≤ p.length ∧ (cutL p).2.1.length ≤ p.length := by
  unfold cutL; split <;> simp <;> omega
theorem matchL_len (p s : Str) : (matchL p s).1.length ≤ s.length := by
  unfold matchL cutSuf cutPre
  repeat' split
  all_goals simp <;> omega

theorem cp90 [XX] (n : Nat) (p stem : Str) (h : p.length + stem.length ≤ 1000000000) : CP (F (n + 3)) 119 [.str p, .str stem] (.str (fillL p stem)) := by
  refine F_cp (rs := [.str (fillL p stem)]) (S := []) rfl rfl ?_
  rw [F_fn rfl rfl rfl Tryz.func119 rfl]
  have h129 := cp129 (n + 1) p (by unfold big; omega)
  have h133 := cp133 n p
  simp only [CP] at h129 h133
  obtain ⟨l1, l2⟩ := cutL_len p
  have k1 : (cutL p).1.length + stem.length ≤ 9223372036854775807 := by omega
  have k2 : (cutL p).1.length + stem.length + (cutL p).2.1.length ≤ 9223372036854775807 := by omega
  unfold fillL
  cases ho : openL p with
  | false => simp [runFn, Tryz.f119, h129, h133, ho]
  | true => simp [runFn, Tryz.f119, h129, h133, ho, k1, k2]

theorem cp52 [XX] (n : Nat) (p q s : Str) (h : q.length + s.length ≤ 1000000000) (hp : p.length ≤ big) : CP (F (n + 4)) 90 [.str p, .str q, .str s] (.str (substL p q s)) := by
  refine F_cp (rs := [.str (substL p q s)]) (S := []) rfl rfl ?_
  rw [F_fn rfl rfl rfl Tryz.func90 rfl]
  have h89 := cp89 n p s hp (by unfold big; omega)
  have h90 := cp90 n q (matchL p s).1 (by have := matchL_len p s; omega)
  simp only [CP] at h89 h90
  unfold substL
  cases hm : (matchL p s).2 with
  | false => simp [runFn, Tryz.f90, h89, hm]
  | true => simp [runFn, Tryz.f90, h89, h90, hm]

theorem clos51 [XX] (n : Nat) (p q : Str) (ws : List Str) (h : ∀ w ∈ ws, q.length + w.length ≤ 1000000000) (hp : p.length ≤ big) : ClosOK (n + 5) [.cells [.str p], .cells [.str q]] ws 148 [.box 0 0, .box 1 0] (fun w => (substL p q w, true)) := by
  intro w hw
  refine ⟨by simp, fun l => ?_⟩
  have h52 := cp52 n p q w (h w hw) hp
  simp only [CP] at h52
  rw [F_fn rfl rfl rfl Tryz.func148 rfl]
  simp [runFn, Tryz.f148, h52]

theorem cp87 [XX] (n : Nat) (s p : Str) (hp : p.length ≤ big) (hs : s.length ≤ big) : CP (F (n + 4)) 176 [.str s, .str p] (.bool (matchL p s).2) := by
  refine F_cp (rs := [.bool (matchL p s).2]) (S := []) rfl rfl ?_
  rw [F_fn rfl rfl rfl Tryz.func176 rfl]
  have h89 := cp89 n p s hp hs
  simp only [CP] at h89
  simp [runFn, Tryz.f176, h89]

end Go.Proofs.YtmcfnnpihlediaaGreatDoor.Ex

/- Is one of the patterns matched? Numbers. -/
namespace Go.Proofs.YtmcfnnpihlediaaGreatDoor.Ex
open Go

def anyL (l : List Str) (s : Str) : Bool := l.any fun p => (matchL p s).2

section
variable {n : Nat} {l : List Str} {s : Str} {S : Obs} {D : List Nat}

set_option maxHeartbeats 1000000 in
theorem idx_step [XX] {i : Nat} {pf : PF} (h0 : pf 0 = .sl 1 (l.map .str)) (h1 : pf 1 = .fn 176 [.str s] []) (h7 : pf 7 = .int .i64 l.length) (h8 : pf 8 = .int .i64 i) (hi : i < l.length) (hl : l.length ≤ 1000000000) (hb : ∀ p ∈ l, p.length ≤ big) (hs : s.length ≤ big) :
    ∃ pf', exec Tryz.prog own1 (F (n + 4)) (n + 4) none 19 (cpath [1, 0, 1, 0, 0] (Tryz.f204.body.getD .skip)) ⟨pf, S, D⟩ = some (if (matchL l[i] s).2 then .ret else .norm, ⟨pf', S, D⟩) ∧
      pf' 0 = .sl 1 (l.map .str) ∧ pf' 1 = .fn 176 [.str s] [] ∧ pf' 7 = .int .i64 l.length ∧ pf' 8 = .int .i64 (if (matchL l[i] s).2 then i else (i + 1 : Nat)) ∧ ((matchL l[i] s).2 = true → pf' 4 = .int .i64 i) := by
  have hw : IntKind.wrap .i64 ((i : Int) + 1) = (i : Int) + 1 := wrap64 (by omega) (by omega)
  have h87 := cp87 n s l[i] (hb _ (List.getElem_mem hi)) hs
  simp only [CP] at h87
  cases hm : (matchL l[i] s).2 with
  | true =>
    rw [hm] at h87
    simp [Tryz.f204, cpath, h0, h1, h7, h8, hi, h87]
  | false =>
    rw [hm] at h87
    simp [Tryz.f204, cpath, h0, h1, h7, h8, hi, h87, hw]

theorem idx_iter [XX] (hl : l.length ≤ 1000000000) (hb : ∀ p ∈ l, p.length ≤ big) (hs : s.length ≤ big) : ∀ (k i : Nat) (pf : PF), i + k = l.length → pf 0 = .sl 1 (l.map .str) → pf 1 = .fn 176 [.str s] [] → pf 7 = .int .i64 l.length → pf 8 = .int .i64 i → ∀ m, k < m →
    ∃ x pf', iter (exec Tryz.prog own1 (F (n + 4)) (n + 4) none 19 (cpath [1, 0, 1, 0, 0] (Tryz.f204.body.getD .skip))) m ⟨pf, S, D⟩ = some (x, ⟨pf', S, D⟩) ∧
      (anyL (l.drop i) s = true → x = .ret ∧ ∃ j : Nat, pf' 4 = .int .i64 j) ∧ (anyL (l.drop i) s = false → x = .ex 0) := by
  intro k
  induction k with
  | zero =>
    intro i pf hi h0 h1 h7 h8 m hm
    obtain ⟨m, rfl⟩ : ∃ m', m = m' + 1 := ⟨m - 1, by omega⟩
    have hil : i = l.length := by omega
    subst hil
    refine ⟨.ex 0, ?_⟩
    simp only [iter]
    simp [Tryz.f204, cpath, h7, h8, anyL]
  | succ k ih =>
    intro i pf hi h0 h1 h7 h8 m hm
    obtain ⟨m, rfl⟩ : ∃ m', m = m' + 1 := ⟨m - 1, by omega⟩
    have hlt : i < l.length := by omega
    obtain ⟨pf1, he, g0, g1, g7, g8, g4⟩ := idx_step (n := n) (S := S) (D := D) h0 h1 h7 h8 hlt hl hb hs
    have hd : anyL (l.drop i) s = ((matchL l[i] s).2 || anyL (l.drop (i + 1)) s) := by
      have e : l.drop i = l[i] :: l.drop (i + 1) := (List.getElem_cons_drop hlt).symm
      simp only [anyL]
      rw [e, List.any_cons]
    simp only [iter, he, hd]
    cases hm2 : (matchL l[i] s).2 with
    | true =>
      exact ⟨.ret, pf1, by simp [hm2], fun _ => ⟨rfl, i, g4 hm2⟩, fun h => by simp at h⟩
    | false =>
      rw [hm2] at g8
      obtain ⟨x, pf2, h2, h3, h4⟩ := ih (i + 1) pf1 (by omega) g0 g1 g7 (by simpa using g8) m (by omega)
      refine ⟨x, pf2, by simp [hm2, h2], fun h => h3 (by simpa using h), fun h => h4 (by simpa using h)⟩

end

set_option maxHeartbeats 1000000 in
theorem cp127 [XX] (n : Nat) (l : List Str) (s : Str) (hl : l.length ≤ 1000000000) (hn : l.length < n) (hb : ∀ p ∈ l, p.length ≤ big) (hs : s.length ≤ big) : ∃ z : Int, CP (F (n + 5)) 204 [.sl 1 (l.map .str), .fn 176 [.str s] []] (.int .i64 z) ∧ (0 ≤ z ↔ anyL l s = true) := by
  obtain ⟨x, pf', h, h1, h2⟩ := idx_iter (n := n) (l := l) (s := s) (S := []) (D := []) hl hb hs l.length 0
    (upd (upd (upd (upd (initPF [.sl 1 (l.map .str), .fn 176 [.str s] []]) 4 (.int .i64 0)) 6 (.sl 1 (l.map .str))) 7 (.int .i64 l.length)) 8 (.int .i64 0)) (by omega) rfl rfl rfl rfl (n + 4) (by omega)
  simp only [Tryz.f204, cpath, Option.getD_some] at h
  cases ha : anyL l s with
  | true =>
    obtain ⟨rfl, j, hj⟩ := h1 (by simpa using ha)
    refine ⟨j, F_cp (rs := [.int .i64 j]) (S := []) (by simp) rfl ?_, by simp⟩
    rw [F_fn rfl rfl rfl Tryz.func204 rfl]
    simp [runFn, Tryz.f204, h, hj]
  | false =>
    have := h2 (by simpa using ha)
    subst this
    refine ⟨-1, F_cp (rs := [.int .i64 (-1)]) (S := []) (by simp) rfl ?_, by simp⟩
    rw [F_fn rfl rfl rfl Tryz.func204 rfl]
    simp [runFn, Tryz.f204, h]

theorem cp86 [XX] (n : Nat) (l : List Str) (s : Str) (hl : l.length ≤ 1000000000) (hn : l.length < n) (hb : ∀ p ∈ l, p.length ≤ big) (hs : s.length ≤ big) : CP (F (n + 6)) 175 [.sl 1 (l.map .str), .fn 176 [.str s] []] (.bool (anyL l s)) := by
  obtain ⟨z, h, hz⟩ := cp127 n l s hl hn hb hs
  simp only [CP] at h
  refine F_cp (rs := [.bool (anyL l s)]) (S := []) (by simp) rfl ?_
  rw [F_fn rfl rfl rfl Tryz.func175 rfl]
  have e : decide (0 ≤ z) = anyL l s := by rw [Bool.eq_iff_iff]; simpa using hz
  simp [runFn, Tryz.f175, h, e]

theorem cp49 [XX] (n : Nat) (l : List Str) (s : Str) (hl : l.length ≤ 1000000000) (hn : l.length < n) (hb : ∀ p ∈ l, p.length ≤ big) (hs : s.length ≤ big) : CP (F (n + 7)) 146 [.sl 1 (l.map .str), .str s] (.bool (anyL l s)) := by
  have h := cp86 n l s hl hn hb hs
  simp only [CP] at h
  refine F_cp (rs := [.bool (anyL l s)]) (S := []) (by simp) rfl ?_
  rw [F_fn rfl rfl rfl Tryz.func146 rfl]
  simp [runFn, Tryz.f146, h]

theorem clos48 [XX] (n : Nat) (a : Str) (keeps : Bool) (pats ws : List Str) (hl : pats.length ≤ 1000000000) (hn : pats.length < n) (hb : ∀ p ∈ pats, p.length ≤ big) (hs : ∀ w ∈ ws, w.length ≤ big) :
    ClosOK (n + 8) [.cells [.str a], .cells [.bool keeps], .acc 1 (pats.map .str)] ws 145 [.box 2 0, .box 1 0] (fun w => (w, anyL pats w == keeps)) := by
  intro w hw
  refine ⟨by simp, fun l => ?_⟩
  have h49 := cp49 n pats w hl hn hb (hs w hw)
  simp only [CP] at h49
  rw [F_fn rfl rfl rfl Tryz.func145 rfl]
  simp [runFn, Tryz.f145, h49]

theorem cp35 [XX] (n : Nat) (s : Str) (hs : s.length ≤ big) : CP (F (n + 1)) 109 [.str s, .str [32, 9]] (.str (trimB s)) := F_ext (g := gTrim) (rs := [.str (trimB s)]) rfl rfl rfl (by simp [gTrim, hs])
theorem cp24 [XX] (n : Nat) (s : Str) (hs : s.length ≤ big) : CP (F (n + 2)) 80 [.str s] (.str (trimB s)) := by
  have h := cp35 n s hs
  simp only [CP] at h
  refine F_cp (rs := [.str (trimB s)]) (S := []) rfl rfl ?_
  rw [F_fn rfl rfl rfl Tryz.func80 rfl]
  simp [runFn, Tryz.f80, h]

/-- A number, and whether it is one. -/
def numP (s : Str) : Nat × Bool := match numL s with | some n => (n, true) | none => (0, false)
theorem cp22 [XX] (n : Nat) (s : Str) (hs : s.length ≤ big) : CP (F (n + 1)) 171 [.str s] (.tup [.int .i64 (numP s).1, .bool (numP s).2]) :=
  F_ext (g := gNumber) (rs := [.int .i64 (numP s).1, .bool (numP s).2]) rfl rfl rfl (by
    have hs' : ¬ big < s.length := by omega
    simp only [gNumber, numP, hs', if_false]; cases numL s <;> rfl)

def numberL (s : Str) (least : Int) : Nat × Bool := ((numP (trimB s)).1, (numP (trimB s)).2 && decide (least ≤ (numP (trimB s)).1))

theorem trimB_len (s : Str) : (trimB s).length ≤ s.length := by
  have h1 := (List.dropWhile_sublist isBl (l := s)).length_le
  have h2 := (List.dropWhile_sublist isBl (l := (s.dropWhile isBl).reverse)).length_le
  simp only [trimB, trimR, List.length_reverse] at h2 ⊢
  omega

theorem cp41 [XX] (n : Nat) (s : Str) (least : Int) (hs : s.length ≤ big) : CP (F (n + 3)) 138 [.str s, .int .i64 least] (.tup [.int .i64 (numberL s least).1, .bool (numberL s least).2]) := by
  have h24 := cp24 n s hs
  have h22 := cp22 (n + 1) (trimB s) (Nat.le_trans (trimB_len s) hs)
  simp only [CP] at h24 h22
  refine F_cp (rs := [.int .i64 (numberL s least).1, .bool (numberL s least).2]) (S := []) rfl rfl ?_
  rw [F_fn rfl rfl rfl Tryz.func138 rfl]
  unfold numberL
  cases hb : (numP (trimB s)).2 with
  | true => simp [runFn, Tryz.f138, h24, h22, hb]
  | false => simp [runFn, Tryz.f138, h24, h22, hb]

end Go.Proofs.YtmcfnnpihlediaaGreatDoor.Ex

/- Functions of one, of two, of three. -/
namespace Go.Proofs.YtmcfnnpihlediaaGreatDoor.Ex
open Go

theorem joinL_len (K : Nat) : ∀ l : List Str, (∀ x ∈ l, x.length ≤ K) → (joinL [32] l).length ≤ l.length * (K + 1)
  | [], _ => by simp [joinL]
  | [x], h => by have := h x (by simp); simp [joinL]; omega
  | x :: y :: r, h => by
    have h1 := h x (by simp)
    have h2 := joinL_len K (y :: r) (fun z hz => h z (by simp [hz]))
    simp only [joinL, List.length_append, List.length_cons, List.length_nil] at h2 ⊢
    rw [Nat.add_mul (r.length + 1) 1]
    omega

theorem wordsGo_mem : ∀ (s cur : Str), ∀ w ∈ wordsGo s cur, w.length ≤ cur.length + s.length
  | [], cur, w, h => by
    simp only [wordsGo] at h
    split at h
    · cases h
    · simp at h; subst h; simp
  | c :: r, cur, w, h => by
    simp only [wordsGo] at h
    split at h
    · split at h
      · have := wordsGo_mem r [] w h; simp at this ⊢; omega
      · rcases List.mem_cons.1 h with rfl | h
        · simp
        · have := wordsGo_mem r [] w h; simp at this ⊢; omega
    · have := wordsGo_mem r (cur ++ [c]) w h; simp at this ⊢; omega
theorem wordsL_mem (s w : Str) (h : w ∈ wordsL s) : w.length ≤ s.length := by have := wordsGo_mem s [] w h; simpa using this

/-- What is told of a text's words. -/
def toldL (g : Str → Str × Bool) (t : Str) : Str := joinL [32] ((wordsL t).flatMap (keepL g))

theorem told_small (g : Str → Str × Bool) (t : Str) (K : Nat) (ht : t.length ≤ 100000) (hK : K ≤ 300000) (h : ∀ w ∈ wordsL t, (g w).1.length ≤ K) : (joinL [32] ((wordsL t).flatMap (keepL g))).length ≤ lim := by
  have h1 := joinL_len K ((wordsL t).flatMap (keepL g)) (fun x hx => by
    obtain ⟨w, hw, hx⟩ := List.mem_flatMap.1 hx
    unfold keepL at hx
    split at hx
    · simp at hx; subst hx; exact h w hw
    · cases hx)
  have h2 := keep_len g (wordsL t)
  have h3 := wordsL_len t
  have h4 : ((wordsL t).flatMap (keepL g)).length * (K + 1) ≤ 100001 * 300001 := Nat.mul_le_mul (by omega) (by omega)
  unfold lim
  omega

theorem partL_len (name w : Str) : (partL name w).length ≤ 2 * w.length + 2 := by
  obtain ⟨l1, l2, l3⟩ := baseL_len w
  unfold partL
  repeat' split
  all_goals first | omega | (simp only [List.length_append]; omega) | (simp; done)

theorem substL_len (p q w : Str) : (substL p q w).length ≤ 2 * q.length + w.length := by
  have h1 := matchL_len p w
  obtain ⟨h2, h3⟩ := cutL_len q
  unfold substL fillL
  repeat' split
  all_goals first | omega | (simp only [List.length_append]; omega)

def gPart (name : Str) (w : Str) : Str × Bool := (partL name w, partL name w != [])
def gSuf (a : Str) (w : Str) : Str × Bool := (w ++ a, true)
def gPre (a : Str) (w : Str) : Str × Bool := (a ++ w, true)
def gFil (pats : List Str) (keeps : Bool) (w : Str) : Str × Bool := (w, anyL pats w == keeps)
def gSub (p q : Str) (w : Str) : Str × Bool := (substL p q w, true)

theorem cp40 [XX] (n : Nat) (t a : Str) (ht : t.length ≤ big) : CP (F (n + 1)) 137 [.str t, .str a] (.bool (hasSub a t)) := F_ext (g := gContains) (rs := [.bool (hasSub a t)]) rfl rfl rfl (by simp [gContains, ht])

theorem spanL_len (ws : List Str) (a b : Int) (K : Nat) (h : ∀ w ∈ ws, w.length ≤ K) : (spanL ws a b).length ≤ ws.length * (K + 1) := by
  have key : ∀ tw : Int, (if a < 1 ∨ tw < a then [] else joinL [32] ((ws.drop (a - 1).toNat).take (tw.toNat - (a - 1).toNat))).length ≤ ws.length * (K + 1) := by
    intro tw
    split
    · simp
    · have := joinL_len K ((ws.drop (a - 1).toNat).take (tw.toNat - (a - 1).toNat)) (fun x hx => h x (List.mem_of_mem_drop (List.mem_of_mem_take hx)))
      refine Nat.le_trans this (Nat.mul_le_mul_right _ ?_)
      simp only [List.length_take, List.length_drop]
      omega
  exact key _

theorem words_sub_small (t : Str) (ht : t.length ≤ 100000) (i j : Nat) : (joinL [32] (((wordsL t).drop i).take j)).length ≤ lim := by
  have h1 := joinL_len t.length (((wordsL t).drop i).take j) (fun x hx => wordsL_mem t x (List.mem_of_mem_drop (List.mem_of_mem_take hx)))
  have h2 : (((wordsL t).drop i).take j).length ≤ t.length + 1 := by
    have := wordsL_len t
    simp only [List.length_take, List.length_drop]; omega
  have h3 : (((wordsL t).drop i).take j).length * (t.length + 1) ≤ 100001 * 100001 := Nat.mul_le_mul (by omega) (by omega)
  unfold lim
  omega

@[simp] theorem zc4 : zeroCells Tryz.prog 6 4 = some [.bool false] := by simp [zeroCells]

theorem dig_le (c : UInt8) (h : isDig c = true) : c.toNat - 48 ≤ 9 := by
  have h1 := h
  simp only [isDig, Bool.and_eq_true, decide_eq_true_eq] at h1
  have h2 : c.toNat ≤ (57 : UInt8).toNat := UInt8.le_iff_toNat_le.1 h1.2
  have e : (57 : UInt8).toNat = 57 := rfl
  omega
theorem valGo_lt (s : Str) : ∀ (a : Nat), s.all isDig = true → valGo a s < (a + 1) * 10 ^ s.length := by
  induction s with
  | nil =>
    intro a _
    rw [List.length_nil, Nat.pow_zero, Nat.mul_one]
    exact Nat.lt_succ_self a
  | cons c r ih =>
    intro a h
    rw [List.all_cons, Bool.and_eq_true] at h
    have hc := dig_le c h.1
    have h3 := ih (10 * a + (c.toNat - 48)) h.2
    have e0 : valGo a (c :: r) = valGo (10 * a + (c.toNat - 48)) r := rfl
    rw [e0, List.length_cons, Nat.pow_succ]
    generalize 10 ^ r.length = K at h3 ⊢
    generalize valGo (10 * a + (c.toNat - 48)) r = V at h3 ⊢
    have h4 : (10 * a + (c.toNat - 48) + 1) * K ≤ (10 * a + 10) * K := Nat.mul_le_mul_right _ (by omega)
    have e : (a + 1) * (K * 10) = (10 * a + 10) * K := by
      rw [Nat.mul_comm K 10, ← Nat.mul_assoc, Nat.add_mul a 1 10, Nat.mul_comm a 10]
    omega

theorem numP_lt (s : Str) : (numP s).1 < 1000000000 := by
  unfold numP numL
  split
  · rename_i n h
    split at h
    · rename_i hc
      injection h with h; subst h
      have h1 := valGo_lt s 0 hc.2.1
      have h2 : 10 ^ s.length ≤ 1000000000 := Nat.le_trans (Nat.pow_le_pow_right (by omega) hc.1) (by decide)
      rw [Nat.zero_add, Nat.one_mul] at h1
      exact Nat.lt_of_lt_of_le h1 h2
    · cases h
  · simp

theorem numberL_lt (a : Str) (least : Int) : ((numberL a least).1 : Int) < 1000000000000 := by
  have := numP_lt (trimB a)
  simp only [numberL]
  omega

theorem cp47 [XX] (hY : XX.y = some gJoined) (n : Nat) (s t : Str) (hs : s.length ≤ 100000) (ht : t.length ≤ 100000) : CP (F (n + 1)) 144 [.str s, .str t] (.str (joinL [32] (zipAdd (wordsL s) (wordsL t)))) :=
  F_ext (f := 144) (g := gJoined) (rs := [.str (joinL [32] (zipAdd (wordsL s) (wordsL t)))]) hY rfl rfl (by simp [gJoined, hs, ht])

section
variable (m : Nat) (t : Str) (ht : t.length ≤ 100000) (hm : t.length < m)
include ht hm

set_option maxHeartbeats 1000000 in
theorem cp39 [XX] (name : Str) : CP (F (m + 18)) 136 [.str name, .str t] (.tup [.str (toldL (gPart name) t), .bool true]) := by
  have hl := wordsL_len t
  obtain ⟨S', h42⟩ := call42 (n := m + 10) (S0 := [.cells [.str name]]) (ws := wordsL t) (c := 169) (caps := [.box 0 0]) (g := gPart name) (by omega) (by omega)
    (clos80 (m + 7) name _ (fun w hw => by have := wordsL_mem t w hw; omega)) (told_small _ t 200002 ht (by omega) (fun w hw => by have := wordsL_mem t w hw; have := partL_len name w; simp only [gPart]; omega))
  have h44 := call44 (m + 16) t [.cells [.str name]] (by omega) (by omega)
  have p44 := cp44 (m + 16) t (by omega) (by omega)
  have h43 := fun c c' fs cs fs' cs' S => call43 (m + 16) c c' fs cs fs' cs' S
  simp only [List.length_cons, List.length_nil, Nat.reduceAdd, List.cons_append, List.nil_append] at h42 h44
  refine F_cp (rs := [.str (toldL (gPart name) t), .bool true]) (S := S') rfl rfl ?_
  rw [F_fn rfl rfl rfl Tryz.func136 rfl]
  simp [runFn, Tryz.f136, p44, h44, h43, h42, toldL]

/-- A function of two. -/
def twoL (name a t : Str) : Str × Bool :=
  if name = [102, 105, 110, 100, 115, 116, 114, 105, 110, 103] then (if hasSub a t then (a, true) else ([], true))
  else if name = [119, 111, 114, 100] then (spanL (wordsL t) (numberL a 1).1 (numberL a 1).1, (numberL a 1).2)
  else if name = [97, 100, 100, 115, 117, 102, 102, 105, 120] then (toldL (gSuf a) t, true)
  else if name = [97, 100, 100, 112, 114, 101, 102, 105, 120] then (toldL (gPre a) t, true)
  else if name = [106, 111, 105, 110] then (joinL [32] (zipAdd (wordsL a) (wordsL t)), true)
  else (toldL (gFil (wordsL a) (name == [102, 105, 108, 116, 101, 114])) t, true)

theorem cp38 [XX] (a b : Int) (ha : a < 1000000000000) : CP (F (m + 8)) 135 [.str t, .int .i64 a, .int .i64 b] (.str (spanL (wordsL t) a b)) := by
  refine F_cp (rs := [.str (spanL (wordsL t) a b)]) (S := []) rfl rfl ?_
  rw [F_fn rfl rfl rfl Tryz.func135 rfl]
  have h19 := cp19 (m + 7) t (by omega) (by omega)
  exact span_spec' h19 (fun i j => cp21 (m + 5) _ (words_sub_small t ht i j)) t a b ha

set_option maxHeartbeats 4000000 in
theorem cp27 [XX] (hY : XX.y = some gJoined) (name a : Str) (ha : a.length ≤ 100000) (hma : a.length < m) :
    CP (F (m + 18)) 113 [.str name, .str a, .str t] (.tup [.str (twoL name a t).1, .bool (twoL name a t).2]) := by
  have hl := wordsL_len t
  have hla := wordsL_len a
  have h44 := call44 (m + 16) t [.cells [.str a]] (by omega) (by omega)
  have p44 := cp44 (m + 16) t (by omega) (by omega)
  have h43 := fun c c' fs cs fs' cs' S => call43 (m + 16) c c' fs cs fs' cs' S
  simp only [List.length_cons, List.length_nil, Nat.reduceAdd, List.cons_append, List.nil_append] at h44
  unfold twoL
  by_cases a1 : name = [102, 105, 110, 100, 115, 116, 114, 105, 110, 103]
  · subst a1
    have h40 := cp40 (m + 16) t a (by unfold big; omega)
    simp only [CP] at h40
    rw [if_pos rfl]
    cases hs : hasSub a t with
    | true =>
      rw [hs] at h40
      refine F_cp (rs := [.str a, .bool true]) (S := [.cells [.str a]]) rfl rfl ?_
      rw [F_fn rfl rfl rfl Tryz.func113 rfl]
      simp [runFn, Tryz.f113, h40]
    | false =>
      rw [hs] at h40
      refine F_cp (rs := [.str [], .bool true]) (S := [.cells [.str a]]) rfl rfl ?_
      rw [F_fn rfl rfl rfl Tryz.func113 rfl]
      simp [runFn, Tryz.f113, h40]
  rw [if_neg a1]
  by_cases a2 : name = [119, 111, 114, 100]
  · subst a2
    have h41 := cp41 (m + 14) a 1 (by unfold big; omega)
    have h38 := fun x hx => cp38 (m + 9) t ht (by omega) x x hx
    simp only [CP] at h41 h38
    have h38' := h38 _ (numberL_lt a 1)
    refine F_cp (rs := [.str (spanL (wordsL t) (numberL a 1).1 (numberL a 1).1), .bool (numberL a 1).2]) (S := [.cells [.str a]]) rfl rfl ?_
    rw [F_fn rfl rfl rfl Tryz.func113 rfl]
    simp [runFn, Tryz.f113, h41, h38']
  rw [if_neg a2]
  by_cases a3 : name = [97, 100, 100, 115, 117, 102, 102, 105, 120]
  · subst a3
    obtain ⟨S', h42⟩ := call42 (n := m + 10) (S0 := [.cells [.str a]]) (ws := wordsL t) (c := 142) (caps := [.box 0 0]) (g := gSuf a) (by omega) (by omega)
      (clos45 (m + 10) a _ (fun w hw => by have := wordsL_mem t w hw; omega)) (told_small _ t 200002 ht (by omega) (fun w hw => by have := wordsL_mem t w hw; simp [gSuf]; omega))
    simp only [List.length_cons, List.length_nil, Nat.reduceAdd, List.cons_append, List.nil_append] at h42
    refine F_cp (rs := [.str (toldL (gSuf a) t), .bool true]) (S := S') rfl rfl ?_
    rw [F_fn rfl rfl rfl Tryz.func113 rfl]
    simp [runFn, Tryz.f113, p44, h44, h43, h42, toldL]
  rw [if_neg a3]
  by_cases a4 : name = [97, 100, 100, 112, 114, 101, 102, 105, 120]
  · subst a4
    obtain ⟨S', h42⟩ := call42 (n := m + 10) (S0 := [.cells [.str a]]) (ws := wordsL t) (c := 143) (caps := [.box 0 0]) (g := gPre a) (by omega) (by omega)
      (clos46 (m + 10) a _ (fun w hw => by have := wordsL_mem t w hw; omega)) (told_small _ t 200002 ht (by omega) (fun w hw => by have := wordsL_mem t w hw; simp [gPre]; omega))
    simp only [List.length_cons, List.length_nil, Nat.reduceAdd, List.cons_append, List.nil_append] at h42
    refine F_cp (rs := [.str (toldL (gPre a) t), .bool true]) (S := S') rfl rfl ?_
    rw [F_fn rfl rfl rfl Tryz.func113 rfl]
    simp [runFn, Tryz.f113, p44, h44, h43, h42, toldL]
  rw [if_neg a4]
  by_cases hj : name = [106, 111, 105, 110]
  · subst hj
    have h47 := cp47 hY (m + 16) a t ha ht
    simp only [CP] at h47
    rw [if_pos rfl]
    refine F_cp (rs := [.str (joinL [32] (zipAdd (wordsL a) (wordsL t))), .bool true]) (S := [.cells [.str a]]) rfl rfl ?_
    rw [F_fn rfl rfl rfl Tryz.func113 rfl]
    simp [runFn, Tryz.f113, h47]
  rw [if_neg hj]
  have h19 := cp19 (m + 17) a (by omega) (by omega)
  have h44' := call44 (m + 16) t [.cells [.str a], .cells [.bool (name == [102, 105, 108, 116, 101, 114])], .acc 1 ((wordsL a).map .str)] (by omega) (by omega)
  obtain ⟨S', h42⟩ := call42 (n := m + 10) (S0 := [.cells [.str a], .cells [.bool (name == [102, 105, 108, 116, 101, 114])], .acc 1 ((wordsL a).map .str)]) (ws := wordsL t) (c := 145) (caps := [.box 2 0, .box 1 0])
    (g := gFil (wordsL a) (name == [102, 105, 108, 116, 101, 114])) (by omega) (by omega)
    (clos48 (m + 3) a _ (wordsL a) _ (by omega) (by omega) (fun p hp => by have := wordsL_mem a p hp; unfold big; omega) (fun p hp => by have := wordsL_mem t p hp; unfold big; omega)) (told_small _ t 200002 ht (by omega) (fun w hw => by have := wordsL_mem t w hw; simp [gFil]; omega))
  simp only [List.length_cons, List.length_nil, Nat.reduceAdd, List.cons_append, List.nil_append] at h42 h44'
  simp only [CP] at h19
  refine F_cp (rs := [.str (toldL (gFil (wordsL a) (name == [102, 105, 108, 116, 101, 114])) t), .bool true]) (S := S') rfl rfl ?_
  rw [F_fn rfl rfl rfl Tryz.func113 rfl]
  have b1 : (name == [102, 105, 110, 100, 115, 116, 114, 105, 110, 103]) = false := by simp [a1]
  have b2 : (name == [119, 111, 114, 100]) = false := by simp [a2]
  have b3 : (name == [97, 100, 100, 115, 117, 102, 102, 105, 120]) = false := by simp [a3]
  have b4 : (name == [97, 100, 100, 112, 114, 101, 102, 105, 120]) = false := by simp [a4]
  have b5 : (name == [106, 111, 105, 110]) = false := by simp [hj]
  simp [runFn, Tryz.f113, p44, h44', h43, h42, toldL, h19, b1, b2, b3, b4, b5]


end
end Go.Proofs.YtmcfnnpihlediaaGreatDoor.Ex

/- Functions of three, of one; how many arguments each has. -/
namespace Go.Proofs.YtmcfnnpihlediaaGreatDoor.Ex
open Go

/-- A function of three. -/
def threeL (name a b t : Str) : Str × Bool :=
  if name = [115, 117, 98, 115, 116] then (if a = [] then (t, true) else (repL a b t, true))
  else if name = [112, 97, 116, 115, 117, 98, 115, 116] then (toldL (gSub a b) t, true)
  else (spanL (wordsL t) (numberL a 1).1 (numberL b 0).1, (numberL a 1).2 && (numberL b 0).2)

theorem cp50 [XX] (n : Nat) (t a b : Str) (ha : a ≠ []) (ht : t.length ≤ big) (h : (t.length + 1) * (b.length + 1) ≤ lim) : CP (F (n + 1)) 147 [.str t, .str a, .str b] (.str (repL a b t)) :=
  F_ext (g := gReplace) (rs := [.str (repL a b t)]) rfl rfl rfl (by
    have h1 : ¬ (a = [] ∨ big < t.length) := by simp [ha]; omega
    simp [gReplace, h1, h])

set_option maxHeartbeats 4000000 in
theorem cp28 [XX] (m : Nat) (name a b t : Str) (ht : t.length ≤ 100000) (hm : t.length < m) (ha : a.length ≤ 100000) (hb : b.length ≤ 100000) :
    CP (F (m + 18)) 114 [.str name, .str a, .str b, .str t] (.tup [.str (threeL name a b t).1, .bool (threeL name a b t).2]) := by
  have hl := wordsL_len t
  have h44 := call44 (m + 16) t [.cells [.str a], .cells [.str b]] (by omega) (by omega)
  have p44 := cp44 (m + 16) t (by omega) (by omega)
  have h43 := fun c c' fs cs fs' cs' S => call43 (m + 16) c c' fs cs fs' cs' S
  simp only [List.length_cons, List.length_nil, Nat.reduceAdd, List.cons_append, List.nil_append] at h44
  unfold threeL
  by_cases a1 : name = [115, 117, 98, 115, 116]
  · subst a1
    rw [if_pos rfl]
    cases a with
    | nil =>
      refine F_cp (rs := [.str t, .bool true]) (S := [.cells [.str []], .cells [.str b]]) rfl rfl ?_
      rw [F_fn rfl rfl rfl Tryz.func114 rfl]
      simp [runFn, Tryz.f114]
    | cons c r =>
      have h50 := cp50 (m + 16) t (c :: r) b (by simp) (by unfold big; omega) (by
        have : (t.length + 1) * (b.length + 1) ≤ 100001 * 100001 := Nat.mul_le_mul (by omega) (by omega)
        unfold lim; omega)
      simp only [CP] at h50
      refine F_cp (rs := [.str (repL (c :: r) b t), .bool true]) (S := [.cells [.str (c :: r)], .cells [.str b]]) rfl rfl ?_
      rw [F_fn rfl rfl rfl Tryz.func114 rfl]
      simp [runFn, Tryz.f114, h50]
  rw [if_neg a1]
  by_cases a2 : name = [112, 97, 116, 115, 117, 98, 115, 116]
  · subst a2
    obtain ⟨S', h42⟩ := call42 (n := m + 10) (S0 := [.cells [.str a], .cells [.str b]]) (ws := wordsL t) (c := 148) (caps := [.box 0 0, .box 1 0]) (g := gSub a b) (by omega) (by omega)
      (clos51 (m + 6) a b _ (fun w hw => by have := wordsL_mem t w hw; omega) (by unfold big; omega)) (told_small _ t 300000 ht (by omega) (fun w hw => by have := wordsL_mem t w hw; have := substL_len a b w; simp only [gSub]; omega))
    simp only [List.length_cons, List.length_nil, Nat.reduceAdd, List.cons_append, List.nil_append] at h42
    refine F_cp (rs := [.str (toldL (gSub a b) t), .bool true]) (S := S') rfl rfl ?_
    rw [F_fn rfl rfl rfl Tryz.func114 rfl]
    simp [runFn, Tryz.f114, p44, h44, h43, h42, toldL]
  rw [if_neg a2]
  have h41a := cp41 (m + 14) a 1 (by unfold big; omega)
  have h41b := cp41 (m + 14) b 0 (by unfold big; omega)
  have h38 := fun y => cp38 (m + 9) t ht (by omega) (numberL a 1).1 y (numberL_lt a 1)
  simp only [CP] at h41a h41b h38
  have b1 : (name == [115, 117, 98, 115, 116]) = false := by simp [a1]
  have b2 : (name == [112, 97, 116, 115, 117, 98, 115, 116]) = false := by simp [a2]
  refine F_cp (rs := [.str (spanL (wordsL t) (numberL a 1).1 (numberL b 0).1), .bool ((numberL a 1).2 && (numberL b 0).2)]) (S := [.cells [.str a], .cells [.str b]]) rfl rfl ?_
  rw [F_fn rfl rfl rfl Tryz.func114 rfl]
  cases hk : (numberL a 1).2 with
  | false => rw [hk] at h41a; simp [runFn, Tryz.f114, h41a, h41b, h38, b1, b2]
  | true => rw [hk] at h41a; simp [runFn, Tryz.f114, h41a, h41b, h38, b1, b2]

/-- A function of one. -/
def oneL (name t : Str) : Str :=
  if name = [115, 116, 114, 105, 112] then joinL [32] (wordsL t)
  else if name = [115, 111, 114, 116] then joinL [32] (sortU (wordsL t))
  else if name = [119, 111, 114, 100, 115] then decL (wordsL t).length
  else if name = [102, 105, 114, 115, 116, 119, 111, 114, 100] then spanL (wordsL t) 1 1
  else if name = [108, 97, 115, 116, 119, 111, 114, 100] then spanL (wordsL t) (wordsL t).length (wordsL t).length
  else toldL (gPart name) t

theorem cp34 [XX] (n k : Nat) (h : k < lim) : CP (F (n + 1)) 86 [.int .i64 k] (.str (decL k)) :=
  F_ext (g := gItoa) (rs := [.str (decL k)]) rfl rfl rfl (by simp only [gItoa]; rw [if_pos (by omega)]; simp)

section
variable [XX] (hX : ext0 112 = none) (n : Nat) (t : Str) (h19 : CP (F n) 110 [.str t] (.sl 1 ((wordsL t).map .str)))
include hX h19

set_option maxHeartbeats 4000000 in
theorem cp26_strip (h21 : CP (F n) 111 [.sl 1 ((wordsL t).map .str)] (.str (joinL [32] (wordsL t)))) : CP (F (n + 1)) 112 [.str [115, 116, 114, 105, 112], .str t] (.tup [.str (joinL [32] (wordsL t)), .bool true]) := by
  simp only [CP] at h19 h21
  refine F_cp (rs := [.str (joinL [32] (wordsL t)), .bool true]) (S := []) rfl rfl ?_
  rw [F_fn hX rfl rfl Tryz.func112 rfl]
  simp [runFn, Tryz.f112, h19, h21]

set_option maxHeartbeats 4000000 in
theorem cp26_words (h34 : CP (F n) 86 [.int .i64 (wordsL t).length] (.str (decL (wordsL t).length))) : CP (F (n + 1)) 112 [.str [119, 111, 114, 100, 115], .str t] (.tup [.str (decL (wordsL t).length), .bool true]) := by
  simp only [CP] at h19 h34
  refine F_cp (rs := [.str (decL (wordsL t).length), .bool true]) (S := []) rfl rfl ?_
  rw [F_fn hX rfl rfl Tryz.func112 rfl]
  simp [runFn, Tryz.f112, h19, h34]

set_option maxHeartbeats 4000000 in
theorem cp26_first (h38 : CP (F n) 135 [.str t, .int .i64 1, .int .i64 1] (.str (spanL (wordsL t) 1 1))) : CP (F (n + 1)) 112 [.str [102, 105, 114, 115, 116, 119, 111, 114, 100], .str t] (.tup [.str (spanL (wordsL t) 1 1), .bool true]) := by
  simp only [CP] at h19 h38
  refine F_cp (rs := [.str (spanL (wordsL t) 1 1), .bool true]) (S := []) rfl rfl ?_
  rw [F_fn hX rfl rfl Tryz.func112 rfl]
  simp [runFn, Tryz.f112, h19, h38]

set_option maxHeartbeats 4000000 in
theorem cp26_last (h38 : CP (F n) 135 [.str t, .int .i64 (wordsL t).length, .int .i64 (wordsL t).length] (.str (spanL (wordsL t) (wordsL t).length (wordsL t).length))) : CP (F (n + 1)) 112 [.str [108, 97, 115, 116, 119, 111, 114, 100], .str t] (.tup [.str (spanL (wordsL t) (wordsL t).length (wordsL t).length), .bool true]) := by
  simp only [CP] at h19 h38
  refine F_cp (rs := [.str (spanL (wordsL t) (wordsL t).length (wordsL t).length), .bool true]) (S := []) rfl rfl ?_
  rw [F_fn hX rfl rfl Tryz.func112 rfl]
  simp [runFn, Tryz.f112, h19, h38]

set_option maxHeartbeats 4000000 in
theorem cp26_part (name : Str) (b0 : (name == [115, 111, 114, 116]) = false) (b1 : (name == [115, 116, 114, 105, 112]) = false) (b3 : (name == [119, 111, 114, 100, 115]) = false) (b4 : (name == [102, 105, 114, 115, 116, 119, 111, 114, 100]) = false)
    (b5 : (name == [108, 97, 115, 116, 119, 111, 114, 100]) = false) (h39 : CP (F n) 136 [.str name, .str t] (.tup [.str (toldL (gPart name) t), .bool true])) : CP (F (n + 1)) 112 [.str name, .str t] (.tup [.str (toldL (gPart name) t), .bool true]) := by
  simp only [CP] at h19 h39
  refine F_cp (rs := [.str (toldL (gPart name) t), .bool true]) (S := []) rfl rfl ?_
  rw [F_fn hX rfl rfl Tryz.func112 rfl]
  simp [runFn, Tryz.f112, h19, h39, b0, b1, b3, b4, b5]
end

theorem cp26 [XX] (hX : ext0 112 = none) (m : Nat) (t : Str) (ht : t.length ≤ 100000) (hm : t.length < m) (name : Str) (hs : name ≠ [115, 111, 114, 116]) : CP (F (m + 19)) 112 [.str name, .str t] (.tup [.str (oneL name t), .bool true]) := by
  have hl := wordsL_len t
  have h19 := cp19 (m + 18) t (by omega) (by omega)
  have hlen := (by unfold lim; omega : (wordsL t).length < lim)
  have h21 := cp21 (m + 16) (wordsL t) (by have := words_sub_small t ht 0 (wordsL t).length; simpa using this)
  have h34 := cp34 (m + 17) (wordsL t).length hlen
  have h38a := cp38 (m + 10) t ht (by omega) 1 1 (by omega)
  have h38b := cp38 (m + 10) t ht (by omega) (wordsL t).length (wordsL t).length (by omega)
  have h39 := cp39 m t ht hm name
  generalize hn : m + 18 = n at *
  have e1 : m + 16 + 2 = n := by omega
  have e2 : m + 17 + 1 = n := by omega
  have e3 : m + 10 + 8 = n := by omega
  have e4 : m + 19 = n + 1 := by omega
  rw [e4]
  clear hn e1 e2 e3 e4 hlen hl
  unfold oneL
  by_cases a1 : name = [115, 116, 114, 105, 112]
  · subst a1; rw [if_pos rfl]; exact cp26_strip hX n t h19 h21
  rw [if_neg a1, if_neg hs]
  by_cases a3 : name = [119, 111, 114, 100, 115]
  · subst a3; rw [if_pos rfl]; exact cp26_words hX n t h19 h34
  rw [if_neg a3]
  by_cases a4 : name = [102, 105, 114, 115, 116, 119, 111, 114, 100]
  · subst a4; rw [if_pos rfl]; exact cp26_first hX n t h19 h38a
  rw [if_neg a4]
  by_cases a5 : name = [108, 97, 115, 116, 119, 111, 114, 100]
  · subst a5; rw [if_pos rfl]; exact cp26_last hX n t h19 h38b
  rw [if_neg a5]
  exact cp26_part hX n t h19 name (by simp [hs]) (by simp [a1]) (by simp [a3]) (by simp [a4]) (by simp [a5]) h39

end Go.Proofs.YtmcfnnpihlediaaGreatDoor.Ex

/- What a call answers, and laws on it. -/
namespace Go.Proofs.YtmcfnnpihlediaaGreatDoor.Ex
open Go

def ones : List Str := [[115, 116, 114, 105, 112], [115, 111, 114, 116], [119, 111, 114, 100, 115], [102, 105, 114, 115, 116, 119, 111, 114, 100], [108, 97, 115, 116, 119, 111, 114, 100], [100, 105, 114], [110, 111, 116, 100, 105, 114], [115, 117, 102, 102, 105, 120], [98, 97, 115, 101, 110, 97, 109, 101]]
def twos : List Str := [[102, 105, 110, 100, 115, 116, 114, 105, 110, 103], [102, 105, 108, 116, 101, 114], [102, 105, 108, 116, 101, 114, 45, 111, 117, 116], [119, 111, 114, 100], [97, 100, 100, 115, 117, 102, 102, 105, 120], [97, 100, 100, 112, 114, 101, 102, 105, 120], [106, 111, 105, 110]]
def threes : List Str := [[115, 117, 98, 115, 116], [112, 97, 116, 115, 117, 98, 115, 116], [119, 111, 114, 100, 108, 105, 115, 116]]
def manyL (name : Str) : Nat := if ones.contains name then 1 else if twos.contains name then 2 else if threes.contains name then 3 else 0

def ansL (name : Str) : List Str → Str × Bool
  | [t] => (oneL name t, true)
  | [a, t] => twoL name a t
  | [a, b, t] => threeL name a b t
  | _ => ([], true)

/-- The answer and the error. -/
def callL (name : Str) (args : List Str) : Str × Nat :=
  if manyL name = 0 then ([], 4) else if args.length ≠ manyL name then ([], 1)
  else if (ansL name args).2 = false then ([], 1) else if 4000 < (ansL name args).1.length then ([], 3) else ((ansL name args).1, 0)
def ofL (name : Str) (args : List Str) : Str := (callL name args).1

theorem ofL_ans {name : Str} {args : List Str} (h0 : manyL name ≠ 0) (h1 : args.length = manyL name) (h2 : (ansL name args).2 = true) (h3 : (ansL name args).1.length ≤ 4000) :
    callL name args = ((ansL name args).1, 0) := by
  have : ¬ 4000 < (ansL name args).1.length := by omega
  simp [callL, h0, h1, h2, this]

theorem told_eq (g : Str → Str × Bool) (t : Str) : toldL g t = joinL [32] ((wordsL t).flatMap (keepL g)) := rfl

theorem keep_sum (g : Str → Str × Bool) (K : Nat) : ∀ l : List Str, (∀ w ∈ l, (g w).1.length ≤ w.length + K) → sumLen (l.flatMap (keepL g)) + (l.flatMap (keepL g)).length ≤ sumLen l + l.length + K * l.length
  | [], _ => by simp [sumLen]
  | x :: r, h => by
    have ih := keep_sum g K r (fun w hw => h w (by simp [hw]))
    have hx := h x (by simp)
    rw [List.flatMap_cons, sumLen_append, List.length_append]
    simp only [sumLen, List.length_cons, Nat.mul_add, Nat.mul_one]
    unfold keepL
    split
    · simp only [sumLen, List.length_cons, List.length_nil]
      unfold keepL at ih; omega
    · simp only [sumLen, List.length_nil]
      unfold keepL at ih; omega

theorem told_len (g : Str → Str × Bool) (t : Str) (K : Nat) (h : ∀ w ∈ wordsL t, (g w).1.length ≤ w.length + K) : (toldL g t).length ≤ t.length + K * (wordsL t).length := by
  have h1 := keep_sum g K (wordsL t) h
  have h2 := wordsL_sum t
  rw [told_eq]
  rcases join_length ((wordsL t).flatMap (keepL g)) with h3 | h3
  · omega
  · rw [h3]; simp [joinL]

theorem keep_all (g : Str → Str × Bool) (h : ∀ w, (g w).2 = true) (l : List Str) : l.flatMap (keepL g) = l.map fun w => (g w).1 := by
  induction l with
  | nil => rfl
  | cons x r ih => rw [List.flatMap_cons, ih]; simp [keepL, h x]
theorem keep_filter (f : Str → Bool) (l : List Str) : l.flatMap (keepL fun w => (w, f w)) = l.filter f := by
  induction l with
  | nil => rfl
  | cons x r ih =>
    rw [List.flatMap_cons, ih, List.filter_cons]
    cases h : f x <;> simp [keepL, h]

theorem sumLen_sub {l m : List Str} (h : List.Sublist l m) : sumLen l + l.length ≤ sumLen m + m.length := by
  induction h with
  | slnil => exact Nat.le_refl _
  | cons a _ ih => simp [sumLen]; omega
  | cons_cons a _ ih => simp [sumLen]; omega

theorem join_sublist_len {l : List Str} (t : Str) (h : List.Sublist l (wordsL t)) : (joinL [32] l).length ≤ t.length := join_sub_len (sumLen_sub h) t (wordsL_sum t)

theorem spanL_words_len (t : Str) (a b : Int) : (spanL (wordsL t) a b).length ≤ t.length := by
  unfold spanL
  simp only
  generalize (if ((wordsL t).length : Int) < b then ((wordsL t).length : Int) else b) = tw
  split
  · simp
  · exact join_sublist_len t ((List.take_sublist _ _).trans (List.drop_sublist _ _))

/-- One word's text is cut into that word. -/
theorem words_one {w : Str} (h : okW w = true) : wordsL w = [w] := by
  have := words_join [w] (by simpa using h)
  simpa [joinL] using this

theorem told_one (g : Str → Str × Bool) {w : Str} (h : okW w = true) : toldL g w = if (g w).2 then (g w).1 else [] := by
  rw [told_eq, words_one h]
  simp only [List.flatMap_cons, List.flatMap_nil, List.append_nil, keepL]
  split <;> simp [joinL]

/-! ### Sorted -/
theorem of_sort (t : Str) (h : t.length ≤ 1000) : ofL [115, 111, 114, 116] [t] = joinL [32] (sortU (wordsL t)) := by
  have hl := sort_len t
  have e : ansL [115, 111, 114, 116] [t] = (joinL [32] (sortU (wordsL t)), true) := by simp [ansL, oneL]
  rw [ofL, ofL_ans (by decide) rfl (by rw [e]) (by rw [e]; show (joinL [32] (sortU (wordsL t))).length ≤ 4000; omega), e]

theorem words_sort (t : Str) : wordsL (joinL [32] (sortU (wordsL t))) = sortU (wordsL t) :=
  words_join _ fun w hw => wordsL_okW t w ((sortU_mem _ _).1 hw)

end Go.Proofs.YtmcfnnpihlediaaGreatDoor.Ex

/- Laws on what a call answers. -/
namespace Go.Proofs.YtmcfnnpihlediaaGreatDoor.Ex
open Go

theorem of_eq {name : Str} {args : List Str} {r : Str} (h0 : manyL name ≠ 0) (h1 : args.length = manyL name) (h2 : ansL name args = (r, true)) (h3 : r.length ≤ 4000) : ofL name args = r := by
  rw [ofL, ofL_ans h0 h1 (by rw [h2]) (by rw [h2]; exact h3), h2]

/-! ### Filters -/
theorem fil_eq (ps : List Str) (k : Bool) (t : Str) : toldL (gFil ps k) t = joinL [32] ((wordsL t).filter fun w => anyL ps w == k) := by
  rw [told_eq]
  show joinL [32] ((wordsL t).flatMap (keepL fun w => (w, anyL ps w == k))) = _
  rw [keep_filter]
theorem fil_len (ps : List Str) (k : Bool) (t : Str) : (toldL (gFil ps k) t).length ≤ t.length := by
  rw [fil_eq]; exact join_sublist_len t List.filter_sublist
theorem words_fil (ps : List Str) (k : Bool) (t : Str) : wordsL (toldL (gFil ps k) t) = (wordsL t).filter fun w => anyL ps w == k := by
  rw [fil_eq]; exact words_join _ fun w hw => wordsL_okW t w (List.mem_filter.1 hw).1
theorem of_filter (p t : Str) (h : t.length ≤ 4000) : ofL [102, 105, 108, 116, 101, 114] [p, t] = toldL (gFil (wordsL p) true) t :=
  of_eq (by decide) rfl (by simp [ansL, twoL]) (Nat.le_trans (fil_len _ _ _) h)
theorem of_filterOut (p t : Str) (h : t.length ≤ 4000) : ofL [102, 105, 108, 116, 101, 114, 45, 111, 117, 116] [p, t] = toldL (gFil (wordsL p) false) t :=
  of_eq (by decide) rfl (by simp [ansL, twoL]) (Nat.le_trans (fil_len _ _ _) h)
theorem fil_one (ps : List Str) (k : Bool) {w : Str} (h : okW w = true) : toldL (gFil ps k) w = if (anyL ps w == k) = true then w else [] := told_one _ h
theorem of_filter_one (p : Str) {w : Str} (h : okW w = true) (hl : w.length ≤ 4000) : ofL [102, 105, 108, 116, 101, 114] [p, w] = if anyL (wordsL p) w = true then w else [] := by
  rw [of_filter p w hl, fil_one _ _ h]; simp

/-! ### Pieces -/
theorem baseL_join (w : Str) : (baseL w).1 ++ ((baseL w).2.1 ++ (baseL w).2.2) = w := by
  unfold baseL
  split
  · simp
  · rw [List.take_append_drop, List.take_append_drop]
theorem of_part (name : Str) {w : Str} (hm : manyL name = 1) (ho : oneL name w = toldL (gPart name) w) (h : okW w = true) (hl : w.length ≤ 1000) : ofL name [w] = partL name w := by
  have e : toldL (gPart name) w = partL name w := by
    rw [told_one _ h]
    show (if (partL name w != []) = true then partL name w else []) = partL name w
    by_cases hp : partL name w = []
    · rw [hp]; rfl
    · rw [if_pos (by simpa using hp)]
  refine of_eq (by omega) hm.symm (r := partL name w) ?_ ?_
  · simp only [ansL, ho, e]
  · have l := partL_len name w; omega
theorem of_dir {w : Str} (h : okW w = true) (hl : w.length ≤ 1000) : ofL [100, 105, 114] [w] = if (baseL w).1 = [] then [46, 47] else (baseL w).1 := by
  rw [of_part _ (by decide) (by simp [oneL]) h hl]; simp [partL]
theorem of_notdir {w : Str} (h : okW w = true) (hl : w.length ≤ 1000) : ofL [110, 111, 116, 100, 105, 114] [w] = (baseL w).2.1 ++ (baseL w).2.2 := by
  rw [of_part _ (by decide) (by simp [oneL]) h hl]; simp [partL]
theorem of_suffix {w : Str} (h : okW w = true) (hl : w.length ≤ 1000) : ofL [115, 117, 102, 102, 105, 120] [w] = (baseL w).2.2 := by
  rw [of_part _ (by decide) (by simp [oneL]) h hl]; simp [partL]
theorem of_basename {w : Str} (h : okW w = true) (hl : w.length ≤ 1000) : ofL [98, 97, 115, 101, 110, 97, 109, 101] [w] = (baseL w).1 ++ (baseL w).2.1 := by
  rw [of_part _ (by decide) (by simp [oneL]) h hl]; simp [partL]

/-! ### Counts -/
theorem isDig_nbl {c : UInt8} (h : isDig c = true) : isBl c = false := by
  obtain ⟨h1, h2⟩ := isDig_toNat h
  simp only [isBl, Bool.or_eq_false_iff, beq_eq_false_iff_ne, ne_eq]
  constructor <;> (intro e; subst e; simp at h1)
theorem dropWhile_id {s : Str} (h : ∀ c ∈ s, isBl c = false) : s.dropWhile isBl = s := by
  cases s with
  | nil => rfl
  | cons c r => simp [h c (by simp)]
theorem trimB_id {s : Str} (h : ∀ c ∈ s, isBl c = false) : trimB s = s := by
  rw [trimB, dropWhile_id h, trimR, dropWhile_id (fun c hc => h c (by simpa using hc)), List.reverse_reverse]
theorem trim_dec (n : Nat) : trimB (decL n) = decL n :=
  trimB_id fun c hc => isDig_nbl (List.all_eq_true.1 (decL_dig n) c hc)
theorem number_dec {n : Nat} (h : n < 1000000000) (least : Int) : numberL (decL n) least = (n, decide (least ≤ n)) := by
  simp [numberL, trim_dec, numP, num_dec h]

theorem spanL_at (ws : List Str) (i : Nat) (h : i < ws.length) : spanL ws ((i + 1 : Nat) : Int) ((i + 1 : Nat) : Int) = ws[i] := by
  have h1 : ¬ ((ws.length : Int) < ((i + 1 : Nat) : Int)) := by omega
  have h2 : ¬ (((i + 1 : Nat) : Int) < 1 ∨ ((i + 1 : Nat) : Int) < ((i + 1 : Nat) : Int)) := by omega
  simp only [spanL, h1, if_false, h2]
  have e1 : (((i + 1 : Nat) : Int) - 1).toNat = i := by omega
  have e2 : (((i + 1 : Nat) : Int)).toNat = i + 1 := by omega
  rw [e1, e2, show i + 1 - i = 1 by omega, List.drop_eq_getElem_cons h]
  rfl
theorem spanL_past (ws : List Str) : spanL ws ((ws.length + 1 : Nat) : Int) ((ws.length + 1 : Nat) : Int) = [] := by
  have h1 : (ws.length : Int) < ((ws.length + 1 : Nat) : Int) := by omega
  simp only [spanL, if_pos h1]
  rw [if_pos (.inr h1)]
theorem spanL_take (ws : List Str) (k : Nat) (h : k ≤ ws.length) : spanL ws 1 (k : Int) = joinL [32] (ws.take k) := by
  have h1 : ¬ ((ws.length : Int) < (k : Int)) := by omega
  simp only [spanL, h1, if_false]
  cases k with
  | zero => rw [if_pos (.inr (by decide))]; rfl
  | succ k =>
    have h2 : ¬ ((1 : Int) < 1 ∨ ((k + 1 : Nat) : Int) < 1) := by omega
    rw [if_neg h2]
    simp
theorem spanL_drop (ws : List Str) (k : Nat) (h : k ≤ ws.length) : spanL ws ((k + 1 : Nat) : Int) (ws.length : Int) = joinL [32] (ws.drop k) := by
  have h1 : ¬ ((ws.length : Int) < (ws.length : Int)) := by omega
  simp only [spanL, h1, if_false]
  by_cases hk : k = ws.length
  · subst hk
    have h2 : (((ws.length + 1 : Nat) : Int) < 1 ∨ (ws.length : Int) < ((ws.length + 1 : Nat) : Int)) := by omega
    rw [if_pos h2]; simp [joinL]
  · have h2 : ¬ (((k + 1 : Nat) : Int) < 1 ∨ (ws.length : Int) < ((k + 1 : Nat) : Int)) := by omega
    rw [if_neg h2]
    have e1 : (((k + 1 : Nat) : Int) - 1).toNat = k := by omega
    rw [e1, List.take_of_length_le (by simp)]
theorem spanL_last (ws : List Str) : spanL ws (ws.length : Int) (ws.length : Int) = if h : ws = [] then [] else ws[ws.length - 1]'(by have := List.length_pos_iff.2 h; omega) := by
  split
  · rename_i h; subst h; simp [spanL]
  · rename_i h
    have hp := List.length_pos_iff.2 h
    have := spanL_at ws (ws.length - 1) (by omega)
    rw [show ws.length - 1 + 1 = ws.length by omega] at this
    exact this
theorem spanL_first (ws : List Str) : spanL ws 1 1 = ws.head?.getD [] := by
  cases ws with
  | nil => simp [spanL]
  | cons x r =>
    have := spanL_at (x :: r) 0 (by simp)
    simpa using this

theorem of_words (t : Str) (h : t.length ≤ 100000) : ofL [119, 111, 114, 100, 115] [t] = decL (wordsL t).length := by
  refine of_eq (by decide) rfl (by simp [ansL, oneL]) ?_
  have h1 := wordsL_len t
  have := decL_len 8 (wordsL t).length (by simp; omega)
  omega
theorem of_word (t : Str) (n : Nat) (h : t.length ≤ 4000) (h1 : 1 ≤ n) (hn : n < 1000000000) : ofL [119, 111, 114, 100] [decL n, t] = spanL (wordsL t) n n := by
  have hd : decide ((1 : Int) ≤ n) = true := by simpa using (by omega : (1 : Int) ≤ n)
  refine of_eq (by decide) rfl ?_ (Nat.le_trans (spanL_words_len t _ _) h)
  simp only [ansL, twoL, number_dec hn, hd]
  simp
theorem of_wordlist (t : Str) (n m : Nat) (h : t.length ≤ 4000) (h1 : 1 ≤ n) (hn : n < 1000000000) (hm : m < 1000000000) : ofL [119, 111, 114, 100, 108, 105, 115, 116] [decL n, decL m, t] = spanL (wordsL t) n m := by
  have hd : decide ((1 : Int) ≤ n) = true := by simpa using (by omega : (1 : Int) ≤ n)
  have hd2 : decide ((0 : Int) ≤ m) = true := by simp
  refine of_eq (by decide) rfl ?_ (Nat.le_trans (spanL_words_len t _ _) h)
  simp only [ansL, threeL, number_dec hn, number_dec hm, hd, hd2]
  simp
theorem of_firstword (t : Str) (h : t.length ≤ 4000) : ofL [102, 105, 114, 115, 116, 119, 111, 114, 100] [t] = spanL (wordsL t) 1 1 :=
  of_eq (by decide) rfl (by simp [ansL, oneL]) (Nat.le_trans (spanL_words_len t _ _) h)
theorem of_lastword (t : Str) (h : t.length ≤ 4000) : ofL [108, 97, 115, 116, 119, 111, 114, 100] [t] = spanL (wordsL t) (wordsL t).length (wordsL t).length :=
  of_eq (by decide) rfl (by simp [ansL, oneL]) (Nat.le_trans (spanL_words_len t _ _) h)
theorem of_strip (t : Str) (h : t.length ≤ 4000) : ofL [115, 116, 114, 105, 112] [t] = joinL [32] (wordsL t) :=
  of_eq (by decide) rfl (by simp [ansL, oneL]) (Nat.le_trans (join_words_len t) h)
theorem words_take (t : Str) (k : Nat) : wordsL (joinL [32] ((wordsL t).take k)) = (wordsL t).take k := words_join _ fun w hw => wordsL_okW t w (List.mem_of_mem_take hw)
theorem words_drop (t : Str) (k : Nat) : wordsL (joinL [32] ((wordsL t).drop k)) = (wordsL t).drop k := words_join _ fun w hw => wordsL_okW t w (List.mem_of_mem_drop hw)

/-! ### Joins -/
theorem okW_app {a w : Str} (h1 : okW a = true) (h2 : okW w = true) : okW (a ++ w) = true := by
  obtain ⟨g1, g2⟩ := okW_iff.1 h1
  obtain ⟨g3, g4⟩ := okW_iff.1 h2
  refine okW_iff.2 ⟨by simp [g1], fun c hc => ?_⟩
  rcases List.mem_append.1 hc with h | h
  · exact g2 c h
  · exact g4 c h
theorem of_addprefix (a t : Str) (h : (a.length + 1) * (wordsL t).length + t.length ≤ 4000) : ofL [97, 100, 100, 112, 114, 101, 102, 105, 120] [a, t] = joinL [32] ((wordsL t).map (a ++ ·)) := by
  have e : toldL (gPre a) t = joinL [32] ((wordsL t).map (a ++ ·)) := by rw [told_eq, keep_all _ (fun _ => rfl)]; rfl
  rw [← e]
  refine of_eq (by decide) rfl (by simp [ansL, twoL]) ?_
  have := told_len (gPre a) t a.length (fun w _ => by simp [gPre]; omega)
  rw [Nat.add_mul] at h; omega
theorem of_addsuffix (a t : Str) (h : (a.length + 1) * (wordsL t).length + t.length ≤ 4000) : ofL [97, 100, 100, 115, 117, 102, 102, 105, 120] [a, t] = joinL [32] ((wordsL t).map (· ++ a)) := by
  have e : toldL (gSuf a) t = joinL [32] ((wordsL t).map (· ++ a)) := by rw [told_eq, keep_all _ (fun _ => rfl)]; rfl
  rw [← e]
  refine of_eq (by decide) rfl (by simp [ansL, twoL]) ?_
  have := told_len (gSuf a) t a.length (fun w _ => by simp [gSuf])
  rw [Nat.add_mul] at h; omega
theorem zip_self : ∀ l : List Str, zipAdd l l = l.map fun w => w ++ w
  | [] => rfl
  | x :: r => by simp [zipAdd, zip_self r]
theorem zip_sum : ∀ a b : List Str, sumLen (zipAdd a b) + (zipAdd a b).length ≤ sumLen a + a.length + sumLen b + b.length
  | [], [] => by simp [zipAdd, sumLen]
  | x :: a, [] => by simp [zipAdd, sumLen]
  | [], y :: b => by simp [zipAdd, sumLen]
  | x :: a, y :: b => by
    have := zip_sum a b
    simp only [zipAdd, sumLen, List.length_append, List.length_cons]
    omega
theorem of_join (a t : Str) (h : a.length + t.length ≤ 3000) : ofL [106, 111, 105, 110] [a, t] = joinL [32] (zipAdd (wordsL a) (wordsL t)) := by
  refine of_eq (by decide) rfl (by simp [ansL, twoL]) ?_
  have h1 := zip_sum (wordsL a) (wordsL t)
  have h2 := wordsL_sum a
  have h3 := wordsL_sum t
  have h4 := join_length_le (zipAdd (wordsL a) (wordsL t))
  omega
theorem of_subst (a b t : Str) (ha : a ≠ []) (h : (repL a b t).length ≤ 4000) : ofL [115, 117, 98, 115, 116] [a, b, t] = repL a b t :=
  of_eq (by decide) rfl (by simp [ansL, threeL, ha]) h
theorem of_subst_nil (b t : Str) (h : t.length ≤ 4000) : ofL [115, 117, 98, 115, 116] [[], b, t] = t :=
  of_eq (by decide) rfl (by simp [ansL, threeL]) h
theorem of_subst_long (a b t : Str) (ha : a ≠ []) (h : 4000 < (repL a b t).length) : ofL [115, 117, 98, 115, 116] [a, b, t] = [] := by
  have e : ansL [115, 117, 98, 115, 116] [a, b, t] = (repL a b t, true) := by simp [ansL, threeL, ha]
  have e1 : ¬ manyL [115, 117, 98, 115, 116] = 0 := by decide
  have e2 : ¬ ([a, b, t].length ≠ manyL [115, 117, 98, 115, 116]) := by
    show ¬ (3 ≠ manyL [115, 117, 98, 115, 116]); decide
  rw [ofL, callL, if_neg e1, if_neg e2, e]
  simp [h]
theorem of_findstring (a t : Str) (h : a.length ≤ 4000) : ofL [102, 105, 110, 100, 115, 116, 114, 105, 110, 103] [a, t] = if hasSub a t = true then a else [] := by
  cases hs : hasSub a t with
  | true => exact of_eq (by decide) rfl (by simp [ansL, twoL, hs]) h
  | false => exact of_eq (by decide) rfl (by simp [ansL, twoL, hs]) (by simp)

/-! ### Patterns, word by word -/
theorem substL_len2 (p q w : Str) : (substL p q w).length ≤ w.length + q.length := by
  have h1 := matchL_len p w
  unfold substL fillL
  split
  · split
    · rename_i ho
      have hc : (cutL q).1.length + (cutL q).2.1.length ≤ q.length := by
        unfold cutL; split <;> simp; omega
      simp only [List.length_append]; omega
    · omega
  · omega
theorem of_patsubst (p q t : Str) (h : t.length + q.length * (wordsL t).length ≤ 4000) : ofL [112, 97, 116, 115, 117, 98, 115, 116] [p, q, t] = joinL [32] ((wordsL t).map (substL p q)) := by
  have e : toldL (gSub p q) t = joinL [32] ((wordsL t).map (substL p q)) := by rw [told_eq, keep_all _ (fun _ => rfl)]; rfl
  rw [← e]
  refine of_eq (by decide) rfl (by simp [ansL, threeL]) ?_
  have := told_len (gSub p q) t q.length (fun w _ => substL_len2 p q w)
  omega
theorem of_patsubst_one (p q : Str) {w : Str} (hw : okW w = true) (h : w.length + q.length ≤ 4000) : ofL [112, 97, 116, 115, 117, 98, 115, 116] [p, q, w] = substL p q w := by
  rw [of_patsubst p q w (by rw [words_one hw]; simpa using h), words_one hw]
  simp [joinL]
theorem of_patsubst_ans (p q t : Str) : ofL [112, 97, 116, 115, 117, 98, 115, 116] [p, q, t] = if 4000 < (joinL [32] ((wordsL t).map (substL p q))).length then [] else joinL [32] ((wordsL t).map (substL p q)) := by
  have e : ansL [112, 97, 116, 115, 117, 98, 115, 116] [p, q, t] = (joinL [32] ((wordsL t).map (substL p q)), true) := by
    have : toldL (gSub p q) t = joinL [32] ((wordsL t).map (substL p q)) := by rw [told_eq, keep_all _ (fun _ => rfl)]; rfl
    simp [ansL, threeL, this]
  have e1 : ¬ manyL [112, 97, 116, 115, 117, 98, 115, 116] = 0 := by decide
  have e2 : ¬ ([p, q, t].length ≠ manyL [112, 97, 116, 115, 117, 98, 115, 116]) := by
    show ¬ (3 ≠ manyL [112, 97, 116, 115, 117, 98, 115, 116]); decide
  rw [ofL, callL, if_neg e1, if_neg e2, e]
  simp only [Bool.true_eq_false, if_false]
  split <;> rfl

end Go.Proofs.YtmcfnnpihlediaaGreatDoor.Ex

/- How many arguments; the call. -/
namespace Go.Proofs.YtmcfnnpihlediaaGreatDoor.Ex
open Go

theorem cp16 [XX] (n : Nat) (name : Str) : CP (F (n + 1)) 76 [.str name] (.int .i64 (manyL name)) := by
  by_cases a0 : name = [115, 116, 114, 105, 112]
  · subst a0
    rw [show manyL [115, 116, 114, 105, 112] = 1 by decide]
    refine F_cp (rs := [.int .i64 1]) (S := []) rfl rfl ?_
    rw [F_fn rfl rfl rfl Tryz.func76 rfl]
    simp [runFn, Tryz.f76]
  by_cases a1 : name = [115, 111, 114, 116]
  · subst a1
    rw [show manyL [115, 111, 114, 116] = 1 by decide]
    refine F_cp (rs := [.int .i64 1]) (S := []) rfl rfl ?_
    rw [F_fn rfl rfl rfl Tryz.func76 rfl]
    simp [runFn, Tryz.f76]
  by_cases a2 : name = [119, 111, 114, 100, 115]
  · subst a2
    rw [show manyL [119, 111, 114, 100, 115] = 1 by decide]
    refine F_cp (rs := [.int .i64 1]) (S := []) rfl rfl ?_
    rw [F_fn rfl rfl rfl Tryz.func76 rfl]
    simp [runFn, Tryz.f76]
  by_cases a3 : name = [102, 105, 114, 115, 116, 119, 111, 114, 100]
  · subst a3
    rw [show manyL [102, 105, 114, 115, 116, 119, 111, 114, 100] = 1 by decide]
    refine F_cp (rs := [.int .i64 1]) (S := []) rfl rfl ?_
    rw [F_fn rfl rfl rfl Tryz.func76 rfl]
    simp [runFn, Tryz.f76]
  by_cases a4 : name = [108, 97, 115, 116, 119, 111, 114, 100]
  · subst a4
    rw [show manyL [108, 97, 115, 116, 119, 111, 114, 100] = 1 by decide]
    refine F_cp (rs := [.int .i64 1]) (S := []) rfl rfl ?_
    rw [F_fn rfl rfl rfl Tryz.func76 rfl]
    simp [runFn, Tryz.f76]
  by_cases a5 : name = [100, 105, 114]
  · subst a5
    rw [show manyL [100, 105, 114] = 1 by decide]
    refine F_cp (rs := [.int .i64 1]) (S := []) rfl rfl ?_
    rw [F_fn rfl rfl rfl Tryz.func76 rfl]
    simp [runFn, Tryz.f76]
  by_cases a6 : name = [110, 111, 116, 100, 105, 114]
  · subst a6
    rw [show manyL [110, 111, 116, 100, 105, 114] = 1 by decide]
    refine F_cp (rs := [.int .i64 1]) (S := []) rfl rfl ?_
    rw [F_fn rfl rfl rfl Tryz.func76 rfl]
    simp [runFn, Tryz.f76]
  by_cases a7 : name = [115, 117, 102, 102, 105, 120]
  · subst a7
    rw [show manyL [115, 117, 102, 102, 105, 120] = 1 by decide]
    refine F_cp (rs := [.int .i64 1]) (S := []) rfl rfl ?_
    rw [F_fn rfl rfl rfl Tryz.func76 rfl]
    simp [runFn, Tryz.f76]
  by_cases a8 : name = [98, 97, 115, 101, 110, 97, 109, 101]
  · subst a8
    rw [show manyL [98, 97, 115, 101, 110, 97, 109, 101] = 1 by decide]
    refine F_cp (rs := [.int .i64 1]) (S := []) rfl rfl ?_
    rw [F_fn rfl rfl rfl Tryz.func76 rfl]
    simp [runFn, Tryz.f76]
  by_cases a9 : name = [102, 105, 110, 100, 115, 116, 114, 105, 110, 103]
  · subst a9
    rw [show manyL [102, 105, 110, 100, 115, 116, 114, 105, 110, 103] = 2 by decide]
    refine F_cp (rs := [.int .i64 2]) (S := []) rfl rfl ?_
    rw [F_fn rfl rfl rfl Tryz.func76 rfl]
    simp [runFn, Tryz.f76]
  by_cases a10 : name = [102, 105, 108, 116, 101, 114]
  · subst a10
    rw [show manyL [102, 105, 108, 116, 101, 114] = 2 by decide]
    refine F_cp (rs := [.int .i64 2]) (S := []) rfl rfl ?_
    rw [F_fn rfl rfl rfl Tryz.func76 rfl]
    simp [runFn, Tryz.f76]
  by_cases a11 : name = [102, 105, 108, 116, 101, 114, 45, 111, 117, 116]
  · subst a11
    rw [show manyL [102, 105, 108, 116, 101, 114, 45, 111, 117, 116] = 2 by decide]
    refine F_cp (rs := [.int .i64 2]) (S := []) rfl rfl ?_
    rw [F_fn rfl rfl rfl Tryz.func76 rfl]
    simp [runFn, Tryz.f76]
  by_cases a12 : name = [119, 111, 114, 100]
  · subst a12
    rw [show manyL [119, 111, 114, 100] = 2 by decide]
    refine F_cp (rs := [.int .i64 2]) (S := []) rfl rfl ?_
    rw [F_fn rfl rfl rfl Tryz.func76 rfl]
    simp [runFn, Tryz.f76]
  by_cases a13 : name = [97, 100, 100, 115, 117, 102, 102, 105, 120]
  · subst a13
    rw [show manyL [97, 100, 100, 115, 117, 102, 102, 105, 120] = 2 by decide]
    refine F_cp (rs := [.int .i64 2]) (S := []) rfl rfl ?_
    rw [F_fn rfl rfl rfl Tryz.func76 rfl]
    simp [runFn, Tryz.f76]
  by_cases a14 : name = [97, 100, 100, 112, 114, 101, 102, 105, 120]
  · subst a14
    rw [show manyL [97, 100, 100, 112, 114, 101, 102, 105, 120] = 2 by decide]
    refine F_cp (rs := [.int .i64 2]) (S := []) rfl rfl ?_
    rw [F_fn rfl rfl rfl Tryz.func76 rfl]
    simp [runFn, Tryz.f76]
  by_cases a15 : name = [106, 111, 105, 110]
  · subst a15
    rw [show manyL [106, 111, 105, 110] = 2 by decide]
    refine F_cp (rs := [.int .i64 2]) (S := []) rfl rfl ?_
    rw [F_fn rfl rfl rfl Tryz.func76 rfl]
    simp [runFn, Tryz.f76]
  by_cases a16 : name = [115, 117, 98, 115, 116]
  · subst a16
    rw [show manyL [115, 117, 98, 115, 116] = 3 by decide]
    refine F_cp (rs := [.int .i64 3]) (S := []) rfl rfl ?_
    rw [F_fn rfl rfl rfl Tryz.func76 rfl]
    simp [runFn, Tryz.f76]
  by_cases a17 : name = [112, 97, 116, 115, 117, 98, 115, 116]
  · subst a17
    rw [show manyL [112, 97, 116, 115, 117, 98, 115, 116] = 3 by decide]
    refine F_cp (rs := [.int .i64 3]) (S := []) rfl rfl ?_
    rw [F_fn rfl rfl rfl Tryz.func76 rfl]
    simp [runFn, Tryz.f76]
  by_cases a18 : name = [119, 111, 114, 100, 108, 105, 115, 116]
  · subst a18
    rw [show manyL [119, 111, 114, 100, 108, 105, 115, 116] = 3 by decide]
    refine F_cp (rs := [.int .i64 3]) (S := []) rfl rfl ?_
    rw [F_fn rfl rfl rfl Tryz.func76 rfl]
    simp [runFn, Tryz.f76]
  have hm : manyL name = 0 := by simp [manyL, ones, twos, threes, a0, a1, a2, a3, a4, a5, a6, a7, a8, a9, a10, a11, a12, a13, a14, a15, a16, a17, a18]
  have b0 : (name == [115, 116, 114, 105, 112]) = false := by simp [a0]
  have b1 : (name == [115, 111, 114, 116]) = false := by simp [a1]
  have b2 : (name == [119, 111, 114, 100, 115]) = false := by simp [a2]
  have b3 : (name == [102, 105, 114, 115, 116, 119, 111, 114, 100]) = false := by simp [a3]
  have b4 : (name == [108, 97, 115, 116, 119, 111, 114, 100]) = false := by simp [a4]
  have b5 : (name == [100, 105, 114]) = false := by simp [a5]
  have b6 : (name == [110, 111, 116, 100, 105, 114]) = false := by simp [a6]
  have b7 : (name == [115, 117, 102, 102, 105, 120]) = false := by simp [a7]
  have b8 : (name == [98, 97, 115, 101, 110, 97, 109, 101]) = false := by simp [a8]
  have b9 : (name == [102, 105, 110, 100, 115, 116, 114, 105, 110, 103]) = false := by simp [a9]
  have b10 : (name == [102, 105, 108, 116, 101, 114]) = false := by simp [a10]
  have b11 : (name == [102, 105, 108, 116, 101, 114, 45, 111, 117, 116]) = false := by simp [a11]
  have b12 : (name == [119, 111, 114, 100]) = false := by simp [a12]
  have b13 : (name == [97, 100, 100, 115, 117, 102, 102, 105, 120]) = false := by simp [a13]
  have b14 : (name == [97, 100, 100, 112, 114, 101, 102, 105, 120]) = false := by simp [a14]
  have b15 : (name == [106, 111, 105, 110]) = false := by simp [a15]
  have b16 : (name == [115, 117, 98, 115, 116]) = false := by simp [a16]
  have b17 : (name == [112, 97, 116, 115, 117, 98, 115, 116]) = false := by simp [a17]
  have b18 : (name == [119, 111, 114, 100, 108, 105, 115, 116]) = false := by simp [a18]
  rw [hm]
  refine F_cp (rs := [.int .i64 0]) (S := []) rfl rfl ?_
  rw [F_fn rfl rfl rfl Tryz.func76 rfl]
  simp [runFn, Tryz.f76, b0, b1, b2, b3, b4, b5, b6, b7, b8, b9, b10, b11, b12, b13, b14, b15, b16, b17, b18]

theorem cp17 [XX] (n : Nat) (name : Str) : CP (F (n + 1)) 92 [.str name] (.int .i64 (manyL name)) := by
  by_cases a0 : name = [115, 116, 114, 105, 112]
  · subst a0
    rw [show manyL [115, 116, 114, 105, 112] = 1 by decide]
    refine F_cp (rs := [.int .i64 1]) (S := []) rfl rfl ?_
    rw [F_fn rfl rfl rfl Tryz.func92 rfl]
    simp [runFn, Tryz.f92]
  by_cases a1 : name = [115, 111, 114, 116]
  · subst a1
    rw [show manyL [115, 111, 114, 116] = 1 by decide]
    refine F_cp (rs := [.int .i64 1]) (S := []) rfl rfl ?_
    rw [F_fn rfl rfl rfl Tryz.func92 rfl]
    simp [runFn, Tryz.f92]
  by_cases a2 : name = [119, 111, 114, 100, 115]
  · subst a2
    rw [show manyL [119, 111, 114, 100, 115] = 1 by decide]
    refine F_cp (rs := [.int .i64 1]) (S := []) rfl rfl ?_
    rw [F_fn rfl rfl rfl Tryz.func92 rfl]
    simp [runFn, Tryz.f92]
  by_cases a3 : name = [102, 105, 114, 115, 116, 119, 111, 114, 100]
  · subst a3
    rw [show manyL [102, 105, 114, 115, 116, 119, 111, 114, 100] = 1 by decide]
    refine F_cp (rs := [.int .i64 1]) (S := []) rfl rfl ?_
    rw [F_fn rfl rfl rfl Tryz.func92 rfl]
    simp [runFn, Tryz.f92]
  by_cases a4 : name = [108, 97, 115, 116, 119, 111, 114, 100]
  · subst a4
    rw [show manyL [108, 97, 115, 116, 119, 111, 114, 100] = 1 by decide]
    refine F_cp (rs := [.int .i64 1]) (S := []) rfl rfl ?_
    rw [F_fn rfl rfl rfl Tryz.func92 rfl]
    simp [runFn, Tryz.f92]
  by_cases a5 : name = [100, 105, 114]
  · subst a5
    rw [show manyL [100, 105, 114] = 1 by decide]
    refine F_cp (rs := [.int .i64 1]) (S := []) rfl rfl ?_
    rw [F_fn rfl rfl rfl Tryz.func92 rfl]
    simp [runFn, Tryz.f92]
  by_cases a6 : name = [110, 111, 116, 100, 105, 114]
  · subst a6
    rw [show manyL [110, 111, 116, 100, 105, 114] = 1 by decide]
    refine F_cp (rs := [.int .i64 1]) (S := []) rfl rfl ?_
    rw [F_fn rfl rfl rfl Tryz.func92 rfl]
    simp [runFn, Tryz.f92]
  by_cases a7 : name = [115, 117, 102, 102, 105, 120]
  · subst a7
    rw [show manyL [115, 117, 102, 102, 105, 120] = 1 by decide]
    refine F_cp (rs := [.int .i64 1]) (S := []) rfl rfl ?_
    rw [F_fn rfl rfl rfl Tryz.func92 rfl]
    simp [runFn, Tryz.f92]
  by_cases a8 : name = [98, 97, 115, 101, 110, 97, 109, 101]
  · subst a8
    rw [show manyL [98, 97, 115, 101, 110, 97, 109, 101] = 1 by decide]
    refine F_cp (rs := [.int .i64 1]) (S := []) rfl rfl ?_
    rw [F_fn rfl rfl rfl Tryz.func92 rfl]
    simp [runFn, Tryz.f92]
  by_cases a9 : name = [102, 105, 110, 100, 115, 116, 114, 105, 110, 103]
  · subst a9
    rw [show manyL [102, 105, 110, 100, 115, 116, 114, 105, 110, 103] = 2 by decide]
    refine F_cp (rs := [.int .i64 2]) (S := []) rfl rfl ?_
    rw [F_fn rfl rfl rfl Tryz.func92 rfl]
    simp [runFn, Tryz.f92]
  by_cases a10 : name = [102, 105, 108, 116, 101, 114]
  · subst a10
    rw [show manyL [102, 105, 108, 116, 101, 114] = 2 by decide]
    refine F_cp (rs := [.int .i64 2]) (S := []) rfl rfl ?_
    rw [F_fn rfl rfl rfl Tryz.func92 rfl]
    simp [runFn, Tryz.f92]
  by_cases a11 : name = [102, 105, 108, 116, 101, 114, 45, 111, 117, 116]
  · subst a11
    rw [show manyL [102, 105, 108, 116, 101, 114, 45, 111, 117, 116] = 2 by decide]
    refine F_cp (rs := [.int .i64 2]) (S := []) rfl rfl ?_
    rw [F_fn rfl rfl rfl Tryz.func92 rfl]
    simp [runFn, Tryz.f92]
  by_cases a12 : name = [119, 111, 114, 100]
  · subst a12
    rw [show manyL [119, 111, 114, 100] = 2 by decide]
    refine F_cp (rs := [.int .i64 2]) (S := []) rfl rfl ?_
    rw [F_fn rfl rfl rfl Tryz.func92 rfl]
    simp [runFn, Tryz.f92]
  by_cases a13 : name = [97, 100, 100, 115, 117, 102, 102, 105, 120]
  · subst a13
    rw [show manyL [97, 100, 100, 115, 117, 102, 102, 105, 120] = 2 by decide]
    refine F_cp (rs := [.int .i64 2]) (S := []) rfl rfl ?_
    rw [F_fn rfl rfl rfl Tryz.func92 rfl]
    simp [runFn, Tryz.f92]
  by_cases a14 : name = [97, 100, 100, 112, 114, 101, 102, 105, 120]
  · subst a14
    rw [show manyL [97, 100, 100, 112, 114, 101, 102, 105, 120] = 2 by decide]
    refine F_cp (rs := [.int .i64 2]) (S := []) rfl rfl ?_
    rw [F_fn rfl rfl rfl Tryz.func92 rfl]
    simp [runFn, Tryz.f92]
  by_cases a15 : name = [106, 111, 105, 110]
  · subst a15
    rw [show manyL [106, 111, 105, 110] = 2 by decide]
    refine F_cp (rs := [.int .i64 2]) (S := []) rfl rfl ?_
    rw [F_fn rfl rfl rfl Tryz.func92 rfl]
    simp [runFn, Tryz.f92]
  by_cases a16 : name = [115, 117, 98, 115, 116]
  · subst a16
    rw [show manyL [115, 117, 98, 115, 116] = 3 by decide]
    refine F_cp (rs := [.int .i64 3]) (S := []) rfl rfl ?_
    rw [F_fn rfl rfl rfl Tryz.func92 rfl]
    simp [runFn, Tryz.f92]
  by_cases a17 : name = [112, 97, 116, 115, 117, 98, 115, 116]
  · subst a17
    rw [show manyL [112, 97, 116, 115, 117, 98, 115, 116] = 3 by decide]
    refine F_cp (rs := [.int .i64 3]) (S := []) rfl rfl ?_
    rw [F_fn rfl rfl rfl Tryz.func92 rfl]
    simp [runFn, Tryz.f92]
  by_cases a18 : name = [119, 111, 114, 100, 108, 105, 115, 116]
  · subst a18
    rw [show manyL [119, 111, 114, 100, 108, 105, 115, 116] = 3 by decide]
    refine F_cp (rs := [.int .i64 3]) (S := []) rfl rfl ?_
    rw [F_fn rfl rfl rfl Tryz.func92 rfl]
    simp [runFn, Tryz.f92]
  have hm : manyL name = 0 := by simp [manyL, ones, twos, threes, a0, a1, a2, a3, a4, a5, a6, a7, a8, a9, a10, a11, a12, a13, a14, a15, a16, a17, a18]
  have b0 : (name == [115, 116, 114, 105, 112]) = false := by simp [a0]
  have b1 : (name == [115, 111, 114, 116]) = false := by simp [a1]
  have b2 : (name == [119, 111, 114, 100, 115]) = false := by simp [a2]
  have b3 : (name == [102, 105, 114, 115, 116, 119, 111, 114, 100]) = false := by simp [a3]
  have b4 : (name == [108, 97, 115, 116, 119, 111, 114, 100]) = false := by simp [a4]
  have b5 : (name == [100, 105, 114]) = false := by simp [a5]
  have b6 : (name == [110, 111, 116, 100, 105, 114]) = false := by simp [a6]
  have b7 : (name == [115, 117, 102, 102, 105, 120]) = false := by simp [a7]
  have b8 : (name == [98, 97, 115, 101, 110, 97, 109, 101]) = false := by simp [a8]
  have b9 : (name == [102, 105, 110, 100, 115, 116, 114, 105, 110, 103]) = false := by simp [a9]
  have b10 : (name == [102, 105, 108, 116, 101, 114]) = false := by simp [a10]
  have b11 : (name == [102, 105, 108, 116, 101, 114, 45, 111, 117, 116]) = false := by simp [a11]
  have b12 : (name == [119, 111, 114, 100]) = false := by simp [a12]
  have b13 : (name == [97, 100, 100, 115, 117, 102, 102, 105, 120]) = false := by simp [a13]
  have b14 : (name == [97, 100, 100, 112, 114, 101, 102, 105, 120]) = false := by simp [a14]
  have b15 : (name == [106, 111, 105, 110]) = false := by simp [a15]
  have b16 : (name == [115, 117, 98, 115, 116]) = false := by simp [a16]
  have b17 : (name == [112, 97, 116, 115, 117, 98, 115, 116]) = false := by simp [a17]
  have b18 : (name == [119, 111, 114, 100, 108, 105, 115, 116]) = false := by simp [a18]
  rw [hm]
  refine F_cp (rs := [.int .i64 0]) (S := []) rfl rfl ?_
  rw [F_fn rfl rfl rfl Tryz.func92 rfl]
  simp [runFn, Tryz.f92, b0, b1, b2, b3, b4, b5, b6, b7, b8, b9, b10, b11, b12, b13, b14, b15, b16, b17, b18]

end Go.Proofs.YtmcfnnpihlediaaGreatDoor.Ex

/- The call. -/
namespace Go.Proofs.YtmcfnnpihlediaaGreatDoor.Ex
open Go

def gOne : List AV → Option (List AV)
  | [.str name, .str t] => if t.length ≤ 100000 then some [.str (oneL name t), .bool true] else none
  | _ => none

/-- Both are not walked. -/
def Full [XX] : Prop := XX.x = some gOne ∧ XX.y = some gJoined

theorem cp26B [XX] (hX : Full) (n : Nat) (name t : Str) (ht : t.length ≤ 100000) : CP (F (n + 1)) 112 [.str name, .str t] (.tup [.str (oneL name t), .bool true]) :=
  F_ext (f := 112) (g := gOne) (rs := [.str (oneL name t), .bool true]) hX.1 rfl rfl (by simp [gOne, ht])

/-- An answer, and whether it is one: what the call makes of it. -/
def finL (r : Str) (ok : Bool) : Str × Nat := if ok = false then ([], 1) else if 4000 < r.length then ([], 3) else (r, 0)

section
variable [XX] {n : Nat} {name : Str}

theorem call14_none (args : List Str) (h16 : CP (F n) 76 [.str name] (.int .i64 0)) : CP (F (n + 1)) 85 [.str name, .sl 1 (args.map .str)] (.tup [.str [], .int .i64 4]) := by
  simp only [CP] at h16
  refine F_cp (rs := [.str [], .int .i64 4]) (S := []) (by simp [noBoxL, noBox]) rfl ?_
  rw [F_fn rfl rfl rfl Tryz.func85 rfl]
  simp [runFn, Tryz.f85, h16]

theorem call14_arg (args : List Str) (k : Nat) (hk : k ≠ 0) (hl : args.length ≠ k) (h16 : CP (F n) 76 [.str name] (.int .i64 k)) : CP (F (n + 1)) 85 [.str name, .sl 1 (args.map .str)] (.tup [.str [], .int .i64 1]) := by
  simp only [CP] at h16
  refine F_cp (rs := [.str [], .int .i64 1]) (S := []) (by simp [noBoxL, noBox]) rfl ?_
  rw [F_fn rfl rfl rfl Tryz.func85 rfl]
  have e1 : ((k : Int) == 0) = false := by simpa using hk
  have e2 : ((args.length : Int) != (k : Int)) = true := by simpa using (by omega : ¬ (args.length : Int) = k)
  simp [runFn, Tryz.f85, h16, e1, e2]

theorem call14_1 {t r : Str} {ok : Bool} (h16 : CP (F n) 76 [.str name] (.int .i64 1)) (h : CP (F n) 112 [.str name, .str t] (.tup [.str r, .bool ok])) :
    CP (F (n + 1)) 85 [.str name, .sl 1 [.str t]] (.tup [.str (finL r ok).1, .int .i64 (finL r ok).2]) := by
  simp only [CP] at h16 h
  refine F_cp (rs := [.str (finL r ok).1, .int .i64 (finL r ok).2]) (S := []) rfl rfl ?_
  rw [F_fn rfl rfl rfl Tryz.func85 rfl]
  cases ok with
  | false => simp [runFn, Tryz.f85, h16, h, finL]
  | true =>
    by_cases hl : 4000 < r.length
    · have e : (4000 : Int) < (r.length : Int) := by omega
      simp [runFn, Tryz.f85, h16, h, finL, hl, e]
    · have e : ¬ (4000 : Int) < (r.length : Int) := by omega
      simp [runFn, Tryz.f85, h16, h, finL, hl, e]

theorem call14_2 {a t r : Str} {ok : Bool} (h16 : CP (F n) 76 [.str name] (.int .i64 2)) (h : CP (F n) 113 [.str name, .str a, .str t] (.tup [.str r, .bool ok])) :
    CP (F (n + 1)) 85 [.str name, .sl 1 [.str a, .str t]] (.tup [.str (finL r ok).1, .int .i64 (finL r ok).2]) := by
  simp only [CP] at h16 h
  refine F_cp (rs := [.str (finL r ok).1, .int .i64 (finL r ok).2]) (S := []) rfl rfl ?_
  rw [F_fn rfl rfl rfl Tryz.func85 rfl]
  cases ok with
  | false => simp [runFn, Tryz.f85, h16, h, finL]
  | true =>
    by_cases hl : 4000 < r.length
    · have e : (4000 : Int) < (r.length : Int) := by omega
      simp [runFn, Tryz.f85, h16, h, finL, hl, e]
    · have e : ¬ (4000 : Int) < (r.length : Int) := by omega
      simp [runFn, Tryz.f85, h16, h, finL, hl, e]

theorem call14_3 {a b t r : Str} {ok : Bool} (h16 : CP (F n) 76 [.str name] (.int .i64 3)) (h : CP (F n) 114 [.str name, .str a, .str b, .str t] (.tup [.str r, .bool ok])) :
    CP (F (n + 1)) 85 [.str name, .sl 1 [.str a, .str b, .str t]] (.tup [.str (finL r ok).1, .int .i64 (finL r ok).2]) := by
  simp only [CP] at h16 h
  refine F_cp (rs := [.str (finL r ok).1, .int .i64 (finL r ok).2]) (S := []) rfl rfl ?_
  rw [F_fn rfl rfl rfl Tryz.func85 rfl]
  cases ok with
  | false => simp [runFn, Tryz.f85, h16, h, finL]
  | true =>
    by_cases hl : 4000 < r.length
    · have e : (4000 : Int) < (r.length : Int) := by omega
      simp [runFn, Tryz.f85, h16, h, finL, hl, e]
    · have e : ¬ (4000 : Int) < (r.length : Int) := by omega
      simp [runFn, Tryz.f85, h16, h, finL, hl, e]
end

theorem many_le (name : Str) : manyL name ≤ 3 := by
  unfold manyL
  repeat' split
  all_goals omega

theorem callL_fin {name : Str} {args : List Str} (h0 : manyL name ≠ 0) (h1 : args.length = manyL name) : callL name args = finL (ansL name args).1 (ansL name args).2 := by
  simp [callL, finL, h0, h1]

theorem cp14 [XX] (hX : Full) (m : Nat) (name : Str) (args : List Str) (ha : ∀ a ∈ args, a.length ≤ 100000) (hm : ∀ a ∈ args, a.length < m) :
    CP (F (m + 20)) 85 [.str name, .sl 1 (args.map .str)] (.tup [.str (callL name args).1, .int .i64 (callL name args).2]) := by
  have h16 := cp16 (m + 18) name
  by_cases h0 : manyL name = 0
  · rw [h0] at h16
    have := call14_none args h16
    simpa [callL, h0] using this
  by_cases h1 : args.length = manyL name
  · rw [callL_fin h0 h1]
    have h3 := many_le name
    rw [← h1] at h16 h3 h0
    match args, h0, h3 with
    | [t], _, _ => exact call14_1 h16 (cp26B hX (m + 18) name t (ha t (by simp)))
    | [a, t], _, _ => exact call14_2 h16 (cp27 (m + 1) t (ha t (by simp)) (by have := hm t (by simp); omega) hX.2 name a (ha a (by simp)) (by have := hm a (by simp); omega))
    | [a, b, t], _, _ => exact call14_3 h16 (cp28 (m + 1) name a b t (ha t (by simp)) (by have := hm t (by simp); omega) (ha a (by simp)) (ha b (by simp)))
    | [], h0, _ => exact absurd rfl h0
    | _ :: _ :: _ :: _ :: _, _, h3 => simp at h3
  · have := call14_arg args (manyL name) h0 h1 h16
    simpa [callL, h0, h1] using this

end Go.Proofs.YtmcfnnpihlediaaGreatDoor.Ex

/- What is not walked: each by its contract. -/
namespace Go.Proofs.YtmcfnnpihlediaaGreatDoor.Ex
open Go Go.RowKit Go.Shelf

/-- What holds all along: below the world's end at the start nothing has turned. -/
def GW (W : World) : Gee where
  base := W.heap.size
  P := fun _ w => Below W.heap.size W w
  stable := fun _ _ _ _ h _ hb _ => h.trans hb

/-- What the program's start has laid. -/
structure Good (W : World) : Prop where
  ml : ∃ m, W.cell? ⟨0, 0, none⟩ = some (.int .i64 m)
  es : ∃ te pe, W.cell? ⟨6, 0, none⟩ = some (.iface te pe)
  er : ∃ te pe, W.cell? ⟨7, 0, none⟩ = some (.iface te pe)
  tab : Lib.TabIs Tryz.prog W "internal/strconv.uint64pow10" .u64 Lib.pow10Tab

section
variable {W w : World} {R : Reads}

theorem Good.mlw (h : Good W) (hb : Below W.heap.size W w) : ∃ m, w.cell? ⟨0, 0, none⟩ = some (.int .i64 m) := by
  obtain ⟨m, hm⟩ := h.ml
  exact ⟨m, by rw [hb.cell (cell_lt hm)]; exact hm⟩
theorem Good.esw (h : Good W) (hb : Below W.heap.size W w) : ∃ te pe, w.cell? ⟨6, 0, none⟩ = some (.iface te pe) := by
  obtain ⟨te, pe, hm⟩ := h.es
  exact ⟨te, pe, by rw [hb.cell (cell_lt hm)]; exact hm⟩
theorem Good.erw (h : Good W) (hb : Below W.heap.size W w) : ∃ te pe, w.cell? ⟨7, 0, none⟩ = some (.iface te pe) := by
  obtain ⟨te, pe, hm⟩ := h.er
  exact ⟨te, pe, by rw [hb.cell (cell_lt hm)]; exact hm⟩
theorem Good.tabw (h : Good W) (hb : Below W.heap.size W w) : Lib.TabIs Tryz.prog w "internal/strconv.uint64pow10" .u64 Lib.pow10Tab :=
  Lib.tabBelow_of_tabIs h.tab w hb

theorem st_below {w' : World} (hs : Stab R w) (h : Below w.heap.size w w') : St R w R w' none := by
  refine ⟨fun _ _ h => h, fun _ _ h => .inl h, fun a v hr => ?_, h.os, h.tape, h.output, h.size, fun k hk _ => h.block k hk⟩
  have := hs a v hr
  exact ⟨by rw [h.cell (cell_lt this.1)]; exact this.1, this.2⟩

/-- A contract whose answer hangs on no memory. -/
theorem ext_ok {own : FuncId → Bool} {f : FuncId} {g : List AV → Option (List AV)} (ho : own f = false)
    (h : ∀ (R : Reads) (w : World) (args : List Value) (avs rs : List AV), Below W.heap.size W w → Stab R w → VRs R [] args avs → g avs = some rs →
      ∃ vs, (∀ R' M, VRs R' M vs rs) ∧ Calls Tryz.prog f args.toArray w fun e w' => e = .returned (retv vs) ∧ Below w.heap.size w w') : FnOK Tryz.prog (GW W) own f g := by
  intro R w args avs rs hP hb hs hargs hg
  obtain ⟨vs, hv, hc⟩ := h R w args avs rs hP hs hargs hg
  refine hc.mono fun e w' ⟨he, hbel⟩ => ⟨vs, R, he, hv R [], st_below hs hbel, fun h => by rw [ho] at h; cases h⟩

theorem grow_below (w : World) (k : Nat) (os : Array Obj) : Below w.heap.size w (Sort.grow (w.drewN k) os) :=
  ⟨rfl, rfl, rfl, by simp [Sort.grow], fun i hi => Sort.heap_grow_old (w.drewN k) os hi⟩

theorem VRs.nil_inv {M : List Nat} {args : List Value} (h : VRs R M args []) : args = [] := List.length_eq_zero_iff.1 h.1
theorem VRs.cons_inv {M : List Nat} {args : List Value} {x : AV} {xs : List AV} (h : VRs R M args (x :: xs)) : ∃ v vs, args = v :: vs ∧ VR R M v x ∧ VRs R M vs xs := by
  cases args with
  | nil => have := h.1; cases this
  | cons v vs =>
    refine ⟨v, vs, rfl, h.2 0 (by simp) (by simp), by simpa using h.1, fun i h1 h2 => ?_⟩
    have := h.2 (i + 1) (by simpa using h1) (by simpa using h2)
    simpa using this
theorem VRs.str1 {M : List Nat} {args : List Value} {a : Str} (h : VRs R M args [.str a]) : args = [.string ⟨a.toArray⟩] := by
  obtain ⟨v, vs, rfl, h1, h2⟩ := h.cons_inv
  rw [h1.str_inv, h2.nil_inv]
theorem VRs.str2 {M : List Nat} {args : List Value} {a b : Str} (h : VRs R M args [.str a, .str b]) : args = [.string ⟨a.toArray⟩, .string ⟨b.toArray⟩] := by
  obtain ⟨v, vs, rfl, h1, h2⟩ := h.cons_inv
  rw [h1.str_inv, h2.str1]
theorem VRs.str3 {M : List Nat} {args : List Value} {a b c : Str} (h : VRs R M args [.str a, .str b, .str c]) : args = [.string ⟨a.toArray⟩, .string ⟨b.toArray⟩, .string ⟨c.toArray⟩] := by
  obtain ⟨v, vs, rfl, h1, h2⟩ := h.cons_inv
  rw [h1.str_inv, h2.str2]

theorem vrs_one {M : List Nat} {v : Value} {x : AV} (h : VR R M v x) : VRs R M [v] [x] := ⟨rfl, fun i h1 h2 => by
  have : i = 0 := by simpa using h1
  subst this; exact h⟩
theorem vrs_cons {M : List Nat} {v : Value} {x : AV} {vs : List Value} {xs : List AV} (h : VR R M v x) (k : VRs R M vs xs) : VRs R M (v :: vs) (x :: xs) := by
  refine ⟨by simp [k.1], fun i h1 h2 => ?_⟩
  cases i with
  | zero => exact h
  | succ i => simpa using k.2 i (by simpa using h1) (by simpa using h2)

theorem sz (s : Str) : (⟨s.toArray⟩ : ByteArray).size = s.length := by simp [ByteArray.size]

theorem ok35 : FnOK Tryz.prog (GW W) own1 109 gTrim := by
  refine ext_ok rfl fun R w args avs rs hP hs hargs hg => ?_
  unfold gTrim at hg
  split at hg
  · rename_i s
    split at hg
    · rename_i hl
      injection hg with hg; subst hg
      rw [hargs.str2]
      refine ⟨[.string ⟨(trimB s).toArray⟩], fun R' M => vrs_one (.str _), ?_⟩
      have h := Any.strings_Trim_laid Tryz.lays160 (by kernel_rfl) ⟨s.toArray⟩ ⟨#[32, 9]⟩ w (by rw [sz]; unfold big at hl; omega) (by decide) (ascii_of_all (by decide))
      simp only [show (⟨#[32, 9]⟩ : ByteArray).data.toList = [32, 9] from rfl, lib_trim] at h
      exact h
    · cases hg
  · cases hg

theorem ok63 : FnOK Tryz.prog (GW W) own1 54 gTrimLeft := by
  refine ext_ok rfl fun R w args avs rs hP hs hargs hg => ?_
  unfold gTrimLeft at hg
  split at hg
  · rename_i s
    injection hg with hg; subst hg
    rw [hargs.str2]
    refine ⟨[.string ⟨(s.dropWhile isBl).toArray⟩], fun R' M => vrs_one (.str _), ?_⟩
    have h := Any.strings_TrimLeft_laid Tryz.lays161 (by kernel_rfl) ⟨s.toArray⟩ ⟨#[32, 9]⟩ w (by decide) (ascii_of_all (by decide))
    simp only [show (⟨#[32, 9]⟩ : ByteArray).data.toList = [32, 9] from rfl, lib_trimLeft] at h
    exact h
  · cases hg

theorem ok40 (hW : Good W) : FnOK Tryz.prog (GW W) own1 137 gContains := by
  refine ext_ok rfl fun R w args avs rs hP hs hargs hg => ?_
  unfold gContains at hg
  split at hg
  · rename_i t a
    split at hg
    · rename_i hl
      injection hg with hg; subst hg
      rw [hargs.str2]
      refine ⟨[.bool (hasSub a t)], fun R' M => vrs_one (.bool _), ?_⟩
      obtain ⟨m, hm⟩ := hW.mlw hP
      have h := Tryz.strings_Contains ⟨t.toArray⟩ ⟨a.toArray⟩ m w (by rw [sz]; unfold big at hl; omega) hm
      simp only [lib_contains] at h
      exact h.mono fun e w' ⟨h1, h2⟩ => ⟨h1, h2 ▸ Below.refl _ _⟩
    · cases hg
  · cases hg

theorem ok129 (hW : Good W) : FnOK Tryz.prog (GW W) own1 32 gCut := by
  refine ext_ok rfl fun R w args avs rs hP hs hargs hg => ?_
  unfold gCut at hg
  split at hg
  · rename_i s c
    split at hg
    · cases hg
    · rename_i hl
      rw [hargs.str2]
      obtain ⟨m, hm⟩ := hW.mlw hP
      have h := Tryz.strings_Cut ⟨s.toArray⟩ ⟨#[c]⟩ m w (by rw [sz]; unfold big at hl; omega) hm
      simp only [show (⟨#[c]⟩ : ByteArray).data.toList = [c] from rfl, lib_cut] at h
      split at hg
      · rename_i i hi
        injection hg with hg; subst hg
        rw [hi] at h
        refine ⟨[.string ⟨(s.take i).toArray⟩, .string ⟨(s.drop (i + 1)).toArray⟩, .bool true], fun R' M => vrs_cons (.str _) (vrs_cons (.str _) (vrs_one (.bool _))), ?_⟩
        exact h.mono fun e w' ⟨h1, n, h2⟩ => ⟨h1, by subst h2; exact ⟨rfl, rfl, rfl, Nat.le_refl _, fun _ _ => rfl⟩⟩
      · rename_i hi
        injection hg with hg; subst hg
        rw [hi] at h
        refine ⟨[.string ⟨s.toArray⟩, .string ⟨#[]⟩, .bool false], fun R' M => vrs_cons (.str _) (vrs_cons (.str []) (vrs_one (.bool _))), ?_⟩
        exact h.mono fun e w' ⟨h1, n, h2⟩ => ⟨h1, by subst h2; exact ⟨rfl, rfl, rfl, Nat.le_refl _, fun _ _ => rfl⟩⟩
  · cases hg

theorem ok131 : FnOK Tryz.prog (GW W) own1 154 gCutPrefix := by
  refine ext_ok rfl fun R w args avs rs hP hs hargs hg => ?_
  unfold gCutPrefix at hg
  split at hg
  · rename_i s p
    rw [hargs.str2]
    have h := Tryz.strings_CutPrefix ⟨s.toArray⟩ ⟨p.toArray⟩ w
    simp only [Lib.trimPrefix, lib_hasPrefix] at h
    split at hg
    · rename_i hp
      injection hg with hg; subst hg
      rw [hp] at h
      refine ⟨[.string ⟨(s.drop p.length).toArray⟩, .bool true], fun R' M => vrs_cons (.str _) (vrs_one (.bool _)), ?_⟩
      exact h.mono fun e w' ⟨h1, h2⟩ => ⟨h1, h2 ▸ Below.refl _ _⟩
    · rename_i hp
      injection hg with hg; subst hg
      rw [Bool.eq_false_iff.2 hp] at h
      refine ⟨[.string ⟨s.toArray⟩, .bool false], fun R' M => vrs_cons (.str _) (vrs_one (.bool _)), ?_⟩
      exact h.mono fun e w' ⟨h1, h2⟩ => ⟨h1, h2 ▸ Below.refl _ _⟩
  · cases hg

theorem ok132 : FnOK Tryz.prog (GW W) own1 155 gCutSuffix := by
  refine ext_ok rfl fun R w args avs rs hP hs hargs hg => ?_
  unfold gCutSuffix at hg
  split at hg
  · rename_i s p
    split at hg
    · cases hg
    rename_i hl
    rw [hargs.str2]
    have h := Tryz.strings_CutSuffix ⟨s.toArray⟩ ⟨p.toArray⟩ w (by rw [sz]; unfold big at hl; omega)
    simp only [Lib.trimSuffix, lib_hasSuffix] at h
    split at hg
    · rename_i hp
      injection hg with hg; subst hg
      rw [hp] at h
      refine ⟨[.string ⟨(s.take (s.length - p.length)).toArray⟩, .bool true], fun R' M => vrs_cons (.str _) (vrs_one (.bool _)), ?_⟩
      exact h.mono fun e w' ⟨h1, h2⟩ => ⟨h1, h2 ▸ Below.refl _ _⟩
    · rename_i hp
      injection hg with hg; subst hg
      rw [Bool.eq_false_iff.2 hp] at h
      refine ⟨[.string ⟨s.toArray⟩, .bool false], fun R' M => vrs_cons (.str _) (vrs_one (.bool _)), ?_⟩
      exact h.mono fun e w' ⟨h1, h2⟩ => ⟨h1, h2 ▸ Below.refl _ _⟩
  · cases hg

theorem ok128 : FnOK Tryz.prog (GW W) own1 117 gCount := by
  refine ext_ok rfl fun R w args avs rs hP hs hargs hg => ?_
  unfold gCount at hg
  split at hg
  · rename_i s
    injection hg with hg; subst hg
    rw [hargs.str2]
    refine ⟨[.int .i64 (s.countP (· == 37) : Nat)], fun R' M => vrs_one (.int _ _), ?_⟩
    have h := Tryz.strings_Count_one ⟨s.toArray⟩ 37 w
    exact h.mono fun e w' ⟨h1, h2⟩ => ⟨h1, h2 ▸ Below.refl _ _⟩
  · cases hg

theorem ok158 : FnOK Tryz.prog (GW W) own1 218 gLastByte := by
  refine ext_ok rfl fun R w args avs rs hP hs hargs hg => ?_
  unfold gLastByte at hg
  split at hg
  · rename_i s c
    split at hg
    · rename_i hc
      injection hg with hg; subst hg
      obtain ⟨v, vs, rfl, h1, h2⟩ := hargs.cons_inv
      obtain ⟨v2, vs2, rfl, h3, h4⟩ := h2.cons_inv
      rw [h1.str_inv, h3.int_inv, h4.nil_inv]
      refine ⟨[.int .i64 (intOf (lastOf (UInt8.ofNat c.toNat) s))], fun R' M => vrs_one (.int _ _), ?_⟩
      have h := Tryz.strings_LastIndexByte ⟨s.toArray⟩ c (by rw [sz]; have := hc.2.2; unfold big at this; omega) w
      have e : c = ((UInt8.ofNat c.toNat).toNat : Int) := by
        have : c.toNat < 256 := by omega
        simp [this]; omega
      rw [e, lib_lastIndexByte, ← e] at h
      exact h.mono fun e w' ⟨h1, h2⟩ => ⟨h1, h2 ▸ Below.refl _ _⟩
    · cases hg
  · cases hg

theorem ok50 (hW : Good W) : FnOK Tryz.prog (GW W) own1 147 gReplace := by
  refine ext_ok rfl fun R w args avs rs hP hs hargs hg => ?_
  unfold gReplace at hg
  split at hg
  · rename_i t a b
    split at hg
    · cases hg
    rename_i ha
    split at hg
    · rename_i hl
      injection hg with hg; subst hg
      rw [hargs.str3]
      have ha1 : a ≠ [] := fun e => ha (.inl e)
      have ha2 : t.length ≤ big := by omega
      obtain ⟨m, hm⟩ := hW.mlw hP
      refine ⟨[.string ⟨(repL a b t).toArray⟩], fun R' M => vrs_one (.str _), ?_⟩
      have hc : Lib.countB ⟨t.toArray⟩ ⟨a.toArray⟩ ≤ t.length + 1 := lib_countFrom_le a _ _
      have hroom : (⟨t.toArray⟩ : ByteArray).size + Lib.countB ⟨t.toArray⟩ ⟨a.toArray⟩ * (⟨b.toArray⟩ : ByteArray).size ≤ 140737488355328 := by
        rw [sz, sz]
        have h1 : Lib.countB ⟨t.toArray⟩ ⟨a.toArray⟩ * b.length ≤ (t.length + 1) * b.length := Nat.mul_le_mul_right _ hc
        have h2 : (t.length + 1) * (b.length + 1) = (t.length + 1) * b.length + (t.length + 1) := by rw [Nat.mul_add, Nat.mul_one]
        unfold lim at hl
        omega
      have h := Tryz.strings_ReplaceAll ⟨t.toArray⟩ ⟨a.toArray⟩ ⟨b.toArray⟩ m w (by rw [sz]; unfold big at ha2; omega) hm (by rw [sz]; exact List.length_pos_iff.2 ha1) hroom
      simp only [lib_replaceAll t a b ha1] at h
      exact h
    · cases hg
  · cases hg

theorem ok34 (hW : Good W) : FnOK Tryz.prog (GW W) own1 86 gItoa := by
  refine ext_ok rfl fun R w args avs rs hP hs hargs hg => ?_
  unfold gItoa at hg
  split at hg
  · rename_i n
    split at hg
    · rename_i hn
      injection hg with hg; subst hg
      obtain ⟨v, vs, rfl, h1, h2⟩ := hargs.cons_inv
      rw [h1.int_inv, h2.nil_inv]
      refine ⟨[.string ⟨(decL n.toNat).toArray⟩], fun R' M => vrs_one (.str _), ?_⟩
      have hn2 := hn.2
      unfold lim at hn2
      have h := Tryz.strconv_Itoa n (by omega) (by omega) w (hW.tabw hP)
      have e : n = (n.toNat : Int) := by omega
      rw [e, lib_itoa, ← e] at h
      exact h.mono fun e w' ⟨h1, k, os, h2⟩ => ⟨h1, by rw [h2]; exact grow_below _ _ _⟩
    · cases hg
  · cases hg
end
end Go.Proofs.YtmcfnnpihlediaaGreatDoor.Ex

/- strings.IndexAny at blanks, whatever the text. -/
namespace Go.Proofs.YtmcfnnpihlediaaGreatDoor.Ex
open Go Go.RowKit Go.Shelf Go.Lib

def bt : ByteArray := ⟨#[32, 9]⟩
theorem bt_size : bt.size = 2 := rfl

set_option maxHeartbeats 4000000 in
set_option maxRecDepth 1000000 in
theorem ir_err (w : World) : Calls Tryz.prog 72 #[.string bt, .int .i32 65533] w fun e w' => e = .returned (.int .i64 (-1)) ∧ Below w.heap.size w w' := by
  have h0 : ∀ ty, (Instr.next (.pointer (some ⟨w.heap.size, 0, none⟩)) true ty).run Tryz.prog (w.iter bt 0) = .ok (.tuple #[.bool true, .int .i64 0, .int .i32 32]) (w.iter bt 1) := fun ty => run_next_ascii w bt 0 ty (by decide) (by decide)
  have h1 : ∀ ty, (Instr.next (.pointer (some ⟨w.heap.size, 0, none⟩)) true ty).run Tryz.prog (w.iter bt 1) = .ok (.tuple #[.bool true, .int .i64 1, .int .i32 9]) (w.iter bt 2) := fun ty => run_next_ascii w bt 1 ty (by decide) (by decide)
  have h2 : ∀ ty, (Instr.next (.pointer (some ⟨w.heap.size, 0, none⟩)) true ty).run Tryz.prog (w.iter bt 2) = .ok (.tuple #[.bool false]) (w.iter bt 2) := fun ty => run_next_end w bt 2 ty (by decide)
  go_enter Tryz.func72, Tryz.ntmps72
  go_wp2
  go_rounds 4
  go_ret
  exact ⟨rfl, (Below.refl _ _).alloc (Nat.le_refl _) _⟩

set_option maxHeartbeats 4000000 in
set_option maxRecDepth 1000000 in
theorem ir_two (w : World) (r : Int) (b0 b1 : UInt8) (hr : 128 ≤ r) (hne : ¬ r = 65533) (hv : Lib.validRune r = true) (he : Utf8.encode r = ⟨#[b0, b1]⟩) (hb : ((9 : Int) == (b1.toNat : Int)) = false) : Calls Tryz.prog 72 #[.string bt, .int .i32 r] w fun e w' => e = .returned (.int .i64 (-1)) ∧ Below w.heap.size w w' := by
  have hn : (r == 65533) = false := by simpa using hne
  have hr0 : (0 : Int) ≤ r := by omega
  have hbt : bt.size = 2 := rfl
  have h9 : bt[1]'(by decide) = 9 := rfl
  have hx : (⟨#[b0, b1]⟩ : ByteArray)[1]'(Nat.lt_succ_self 1) = b1 := rfl
  have hb2 : ((9 : Int) != (b1.toNat : Int)) = true := by simpa [bne] using hb
  have hex : bt.extract 2 2 = ByteArray.empty := rfl
  have hw : IntKind.i64.wrap 2 = 2 := by decide
  have hIB : ∀ w, Calls Tryz.prog 105 #[.string ByteArray.empty, .int .u8 b1.toNat] w fun e w' => e = .returned (.int .i64 (-1)) ∧ w' = w := fun w => Tryz.strings_IndexByte ByteArray.empty b1.toNat w
  go_enter Tryz.func72, Tryz.ntmps72
  go_wp2_with (first | (go_at_call 106; refine (Tryz.utf8_ValidRune _ _).mono ?_; rintro e w' ⟨rfl, rfl⟩; rw [hv]) | fail)
  go_step3
  go_wp2
  go_rounds 1
  go_step3
  go_wp2
  go_quiet (fail)
  go_wp2
  go_quiet ((go_at_call 105; exact (hIB _).mono fun _ _ ⟨he, hm⟩ => ⟨he, _, hm⟩))
  go_wp2
  rw [Exit.noGoto_ret]
  go_simp
  go_ret
  exact ⟨rfl, ⟨rfl, rfl, rfl, Nat.le_refl _, fun _ _ => rfl⟩⟩

set_option maxHeartbeats 4000000 in
set_option maxRecDepth 1000000 in
theorem ir_three (w : World) (r : Int) (b0 b1 b2 : UInt8) (hr : 128 ≤ r) (hne : ¬ r = 65533) (hv : Lib.validRune r = true) (he : Utf8.encode r = ⟨#[b0, b1, b2]⟩) : Calls Tryz.prog 72 #[.string bt, .int .i32 r] w fun e w' => e = .returned (.int .i64 (-1)) ∧ Below w.heap.size w w' := by
  have hn : (r == 65533) = false := by simpa using hne
  have hr0 : (0 : Int) ≤ r := by omega
  have hbt : bt.size = 2 := rfl
  go_enter Tryz.func72, Tryz.ntmps72
  go_wp2_with (first | (go_at_call 106; refine (Tryz.utf8_ValidRune _ _).mono ?_; rintro e w' ⟨rfl, rfl⟩; rw [hv]) | fail)
  go_step3
  go_wp2
  go_rounds 1
  rw [Exit.noGoto_ret]
  go_ret
  exact ⟨rfl, ⟨rfl, rfl, rfl, Nat.le_refl _, fun _ _ => rfl⟩⟩

set_option maxHeartbeats 4000000 in
set_option maxRecDepth 1000000 in
theorem ir_four (w : World) (r : Int) (b0 b1 b2 b3 : UInt8) (hr : 128 ≤ r) (hne : ¬ r = 65533) (hv : Lib.validRune r = true) (he : Utf8.encode r = ⟨#[b0, b1, b2, b3]⟩) : Calls Tryz.prog 72 #[.string bt, .int .i32 r] w fun e w' => e = .returned (.int .i64 (-1)) ∧ Below w.heap.size w w' := by
  have hn : (r == 65533) = false := by simpa using hne
  have hr0 : (0 : Int) ≤ r := by omega
  have hbt : bt.size = 2 := rfl
  go_enter Tryz.func72, Tryz.ntmps72
  go_wp2_with (first | (go_at_call 106; refine (Tryz.utf8_ValidRune _ _).mono ?_; rintro e w' ⟨rfl, rfl⟩; rw [hv]) | fail)
  go_step3
  go_wp2
  go_rounds 1
  rw [Exit.noGoto_ret]
  go_ret
  exact ⟨rfl, ⟨rfl, rfl, rfl, Nat.le_refl _, fun _ _ => rfl⟩⟩

theorem ir_any (w : World) (r : Int) (hr : 128 ≤ r) (hv : r = 65533 ∨ Lib.validRune r = true) : Calls Tryz.prog 72 #[.string bt, .int .i32 r] w fun e w' => e = .returned (.int .i64 (-1)) ∧ Below w.heap.size w w' := by
  by_cases hne : r = 65533
  · subst hne; exact ir_err w
  · have hv := hv.resolve_left hne
    have hv2 : Utf8.valid r = true := by
      simp only [Lib.validRune, decide_eq_true_eq] at hv
      simp only [Utf8.valid, Bool.or_eq_true, Bool.and_eq_true, decide_eq_true_eq]
      omega
    have hc : 128 ≤ r.toNat := by omega
    by_cases h1 : r.toNat < 2048
    · refine ir_two w r (UInt8.ofNat (0xC0 + r.toNat / 64)) (UInt8.ofNat (0x80 + r.toNat % 64)) hr hne hv ?_ ?_
      · have h0 : ¬ r.toNat < 128 := by omega
        simp [Utf8.encode, hv2, h0, h1]
      · have : (0x80 + r.toNat % 64) % 256 = 0x80 + r.toNat % 64 := by omega
        simp [this]; omega
    · by_cases h2 : r.toNat < 65536
      · refine ir_three w r (UInt8.ofNat (0xE0 + r.toNat / 4096)) (UInt8.ofNat (0x80 + r.toNat / 64 % 64)) (UInt8.ofNat (0x80 + r.toNat % 64)) hr hne hv ?_
        have h0 : ¬ r.toNat < 128 := by omega
        simp [Utf8.encode, hv2, h0, h1, h2]
      · refine ir_four w r (UInt8.ofNat (0xF0 + r.toNat / 262144)) (UInt8.ofNat (0x80 + r.toNat / 4096 % 64)) (UInt8.ofNat (0x80 + r.toNat / 64 % 64)) (UInt8.ofNat (0x80 + r.toNat % 64)) hr hne hv ?_
        have h0 : ¬ r.toNat < 128 := by omega
        simp [Utf8.encode, hv2, h0, h1, h2]

theorem get_at (s : ByteArray) (i : Nat) (h : i < s.size) : s.get! i = s[i]'h := by
  simp [ByteArray.get!, getElem!_pos, h]
  rfl

/-- A byte beyond ASCII: what is told is beyond ASCII, and so are all the bytes that it takes. -/
theorem dec_facts (s : ByteArray) (pos : Nat) (h : pos < s.size) (h128 : 128 ≤ (s[pos]'h).toNat) :
    ∃ r k : Nat, Utf8.decode s pos = (r, k) ∧ 1 ≤ k ∧ pos + k ≤ s.size ∧ 128 ≤ r ∧ r < 2000000 ∧ (r = 65533 ∨ Lib.validRune r = true) ∧ ∀ (j : Nat) (hj : j < s.size), pos ≤ j → j < pos + k → 128 ≤ (s[j]'hj).toNat := by
  have e0 : (s.get! (pos + 0)).toNat = (s[pos]'h).toNat := by rw [Nat.add_zero, get_at s pos h]
  have hb : (s[pos]'h).toNat < 256 := (s[pos]'h).toNat_lt
  have one : ∀ (j : Nat) (hj : j < s.size), pos ≤ j → j < pos + 1 → 128 ≤ (s[j]'hj).toNat := by
    intro j hj h1 h2
    have : j = pos := by omega
    subst this; exact h128
  have bad : ∃ r k : Nat, (Utf8.runeError, 1) = (r, k) ∧ 1 ≤ k ∧ pos + k ≤ s.size ∧ 128 ≤ r ∧ r < 2000000 ∧ (r = 65533 ∨ Lib.validRune r = true) ∧ ∀ (j : Nat) (hj : j < s.size), pos ≤ j → j < pos + k → 128 ≤ (s[j]'hj).toNat :=
    ⟨65533, 1, rfl, Nat.le_refl _, by omega, by omega, by omega, .inl rfl, one⟩
  have hval : ∀ c : Nat, Utf8.valid c = true → Lib.validRune c = true := by
    intro c hc
    simp only [Utf8.valid, Bool.or_eq_true, Bool.and_eq_true, decide_eq_true_eq] at hc
    simp only [Lib.validRune, decide_eq_true_eq]
    omega
  have cont : ∀ k : Nat, (decide (pos + k < s.size) && (s.get! (pos + k)).toNat / 64 == 2) = true → ∃ hk : pos + k < s.size, 128 ≤ (s[pos + k]'hk).toNat := by
    intro k hk
    simp only [Bool.and_eq_true, decide_eq_true_eq, beq_iff_eq] at hk
    refine ⟨hk.1, ?_⟩
    have := hk.2
    rw [get_at s _ hk.1] at this
    omega
  have hm : ∀ k : Nat, (s.get! (pos + k)).toNat % 64 < 64 := fun k => Nat.mod_lt _ (by decide)
  unfold Utf8.decode
  simp only [e0]
  have h0 : ¬ (s[pos]'h).toNat < 0x80 := by omega
  rw [if_neg h0]
  split
  · rename_i h1
    simp only [Bool.and_eq_true] at h1
    obtain ⟨k1, g1⟩ := cont 1 (by simpa using h1.2)
    split
    · rename_i hc
      refine ⟨_, _, rfl, by omega, by omega, hc, by have := hm 1; omega, .inr (hval _ ?_), ?_⟩
      · have := hm 1
        simp only [Utf8.valid, Bool.or_eq_true, Bool.and_eq_true, decide_eq_true_eq]
        left; omega
      · intro j hj h2 h3
        rcases (by omega : j = pos ∨ j = pos + 1) with rfl | rfl
        · exact h128
        · exact g1
    · exact bad
  · split
    · rename_i h1
      simp only [Bool.and_eq_true] at h1
      obtain ⟨k1, g1⟩ := cont 1 (by simpa using h1.1.2)
      obtain ⟨k2, g2⟩ := cont 2 (by simpa using h1.2)
      split
      · rename_i hc
        simp only [Bool.and_eq_true, decide_eq_true_eq] at hc
        refine ⟨_, _, rfl, by omega, by omega, by omega, by have := hm 1; have := hm 2; omega, .inr (hval _ hc.2), ?_⟩
        intro j hj h2 h3
        rcases (by omega : j = pos ∨ j = pos + 1 ∨ j = pos + 2) with rfl | rfl | rfl
        · exact h128
        · exact g1
        · exact g2
      · exact bad
    · split
      · rename_i h1
        simp only [Bool.and_eq_true] at h1
        obtain ⟨k1, g1⟩ := cont 1 (by simpa using h1.1.1.2)
        obtain ⟨k2, g2⟩ := cont 2 (by simpa using h1.1.2)
        obtain ⟨k3, g3⟩ := cont 3 (by simpa using h1.2)
        split
        · rename_i hc
          simp only [Bool.and_eq_true, decide_eq_true_eq] at hc
          have hv := hval _ hc.2
          refine ⟨_, _, rfl, by omega, by omega, by omega, ?_, .inr hv, ?_⟩
          · simp only [Lib.validRune, decide_eq_true_eq] at hv; omega
          · intro j hj h2 h3
            rcases (by omega : j = pos ∨ j = pos + 1 ∨ j = pos + 2 ∨ j = pos + 3) with rfl | rfl | rfl | rfl
            · exact h128
            · exact g1
            · exact g2
            · exact g3
        · exact bad
      · exact bad

theorem run_next_dec {P : Program} (w : World) (s : ByteArray) (pos : Nat) (ty : TypeId) (h : pos < s.size) (r k : Nat) (hd : Utf8.decode s pos = (r, k)) :
    (Instr.next (.pointer (some ⟨w.heap.size, 0, none⟩)) true ty).run P (w.iter s pos) = .ok (.tuple #[.bool true, .int .i64 pos, .int .i32 r]) (w.iter s (pos + k)) := by
  simp only [Instr.next, getObj, setObj, Sem.run_bind, Sem.run, World.iter_heap, Result.andThen, h, if_true, hd, World.iter_set]
  simp [goInt, Sem.run, World.iter_heap, World.iter_set]

end Go.Proofs.YtmcfnnpihlediaaGreatDoor.Ex

/- strings.IndexAny at blanks; strings.Join; text.Number. -/
namespace Go.Proofs.YtmcfnnpihlediaaGreatDoor.Ex
open Go Go.RowKit Go.Shelf Go.Lib

/-- No blank among the first i bytes. -/
def NoBl (s : ByteArray) (i : Nat) : Prop := ∀ (j : Nat) (h : j < s.size), j < i → isBl (s[j]'h) = false

theorem idx_hit : ∀ (s : Str) (i : Nat) (h : i < s.length), (∀ j (hj : j < s.length), j < i → isBl s[j] = false) → isBl s[i] = true → idxBl s = some i
  | c :: r, 0, _, _, hb => by simp only [List.getElem_cons_zero] at hb; simp [idxBl, hb]
  | c :: r, i + 1, h, hn, hb => by
    have h0 := hn 0 (by simp) (by omega)
    simp only [List.getElem_cons_zero] at h0
    have ih := idx_hit r i (by simpa using h) (fun j hj h1 => by have := hn (j + 1) (by simpa using hj) (by omega); simpa using this) (by simpa using hb)
    simp [idxBl, h0, ih]
theorem idx_miss : ∀ (s : Str), (∀ j (hj : j < s.length), isBl s[j] = false) → idxBl s = none
  | [], _ => rfl
  | c :: r, hn => by
    have h0 := hn 0 (by simp)
    simp only [List.getElem_cons_zero] at h0
    have ih := idx_miss r (fun j hj => by have := hn (j + 1) (by simpa using hj); simpa using this)
    simp [idxBl, h0, ih]

theorem ba_get (s : Str) (j : Nat) (h : j < s.length) : (⟨s.toArray⟩ : ByteArray)[j]'(by rw [sz]; exact h) = s[j] := by
  simp [ByteArray.getElem_eq_getElem_data]

theorem idx_hit' (s : Str) (i : Nat) (h : i < (⟨s.toArray⟩ : ByteArray).size) (hn : NoBl ⟨s.toArray⟩ i) (hb : isBl ((⟨s.toArray⟩ : ByteArray)[i]'h) = true) : intOf (idxBl s) = i := by
  have hl : i < s.length := by rw [sz] at h; exact h
  rw [idx_hit s i hl (fun j hj h1 => by have := hn j (by rw [sz]; exact hj) h1; rwa [ba_get s j hj] at this) (by rwa [ba_get s i hl] at hb)]
  rfl
theorem idx_miss' (s : Str) (hn : NoBl ⟨s.toArray⟩ (⟨s.toArray⟩ : ByteArray).size) : intOf (idxBl s) = -1 := by
  rw [idx_miss s fun j hj => ?_]
  · rfl
  · have h := hn j (by rw [sz]; exact hj) (by rw [sz]; exact hj)
    rwa [ba_get s j hj] at h

theorem bl_iff (x : UInt8) : isBl x = decide (0 ≤ Lib.indexByte [32, 9] x) := by
  rw [← bl_contains, Lib.contains_iff_indexByte]

theorem run_next_put {P : Program} (w : World) (b : Nat) (s : ByteArray) (pos : Nat) (ty : TypeId) (hb : w.heap[b]? = some (.stringIter s pos)) (h : pos < s.size) (r k : Nat) (hd : Utf8.decode s pos = (r, k)) :
    (Instr.next (.pointer (some ⟨b, 0, none⟩)) true ty).run P w = .ok (.tuple #[.bool true, .int .i64 pos, .int .i32 r]) (w.putObj b (.stringIter s (pos + k))) := by
  have hlt : b < w.heap.size := (Array.getElem?_eq_some_iff.1 hb).1
  simp only [Instr.next, getObj, setObj, Sem.run_bind, Sem.run, hb, Result.andThen, h, if_true, hd]
  simp [goInt, Sem.run, hb, World.putObj, hlt]
theorem run_next_done {P : Program} (w : World) (b : Nat) (s : ByteArray) (pos : Nat) (ty : TypeId) (hb : w.heap[b]? = some (.stringIter s pos)) (h : ¬ pos < s.size) :
    (Instr.next (.pointer (some ⟨b, 0, none⟩)) true ty).run P w = .ok (.tuple #[.bool false]) w := by
  simp [Instr.next, getObj, Sem.run, hb, h]

theorem below_put {W w : World} (h : Below W.heap.size W w) (b : Nat) (hb : W.heap.size ≤ b) (o : Obj) : Below W.heap.size W (w.putObj b o) :=
  ⟨h.os, h.tape, h.output, by have := h.size; simpa [World.putObj] using this, fun k hk => by
    rw [World.putObj_heap_other (by omega)]; exact h.block k hk⟩

set_option maxHeartbeats 8000000 in
set_option maxRecDepth 1000000 in
theorem any_short (s : ByteArray) (w : World) (h8 : s.size ≤ 8) (R : Int) (hhit : ∀ (i : Nat) (h : i < s.size), NoBl s i → isBl (s[i]'h) = true → R = i) (hmiss : NoBl s s.size → R = -1) :
    Calls Tryz.prog 51 #[.string s, .string bt] w fun e w' => e = .returned (.int .i64 R) ∧ Below w.heap.size w w' := by
  have HH : Aside (∀ (i : Nat) (h : i < s.size), NoBl s i → isBl (s[i]'h) = true → R = i) := hhit
  have HM : Aside (NoBl s s.size → R = -1) := hmiss
  clear hhit hmiss
  have h8z : decide ((8 : Int) < (s.size : Int)) = false := decide_eq_false (by omega)
  have hbt : bt.size = 2 := rfl
  have hbe : bt.toList.isEmpty = false := by rw [Lib.toList_data]; rfl
  go_enter Tryz.func51, Tryz.ntmps51
  go_wp2_with (go_at_call 73; refine (Tryz.strings_shouldUseASCIISet _ _).mono ?_; rintro e w' ⟨rfl, hw⟩; rw [hw, h8z])
  go_loopg [9, 10] s.size (fun g _ _ wx => ∃ (i : Nat) (w0 : World), i + g = s.size ∧ wx = w0 ∧ Below w.heap.size w w0 ∧ w.heap.size < w0.heap.size ∧ w0.heap[w.heap.size]? = some (.stringIter s i) ∧ NoBl s i)
  case atStart => exact ⟨0, w.iter s 0, by omega, rfl, (Below.refl _ _).alloc (Nat.le_refl _) _, by show w.heap.size < (w.alloc _).heap.size; simp, World.iter_heap w s 0, fun _ _ h => by omega⟩
  case round =>
    obtain ⟨i, w0, hig, rfl, hB, hlt, hit, hno⟩ := hrel
    have HB : Aside (Below w.heap.size w wr) := hB
    have HI : Aside (wr.heap[w.heap.size]? = some (.stringIter s i)) := hit
    have HN : Aside (NoBl s i) := hno
    clear hB hit hno
    by_cases hi : i < s.size
    · by_cases h128 : (s[i]'hi).toNat < 128
      · have hd := decode_ascii s i hi h128
        have hnx := fun ty => run_next_put (P := Tryz.prog) wr w.heap.size s i ty HI.out hi _ _ hd
        clear hd
        obtain ⟨x, hx⟩ : ∃ x : UInt8, s[i]'hi = x := ⟨_, rfl⟩
        rw [hx] at hnx h128
        have Hx : Aside (s[i]'hi = x) := hx
        clear hx
        have hback : ((x.toNat : Int)).toNat.toUInt8 = x := by simp
        have hbl := bl_iff x
        cases hin : isBl x
        · rw [hin] at hbl
          have hge : ¬ ((0 : Int) ≤ Lib.indexByte [32, 9] x) := of_decide_eq_false hbl.symm
          clear hbl
          go_wp2_with (go_at_call 72; refine (Tryz.strings_IndexRune_ascii _ _ _ (by omega) (by omega)).mono ?_; rintro e w' ⟨rfl, hw⟩; rw [hw, hback, show bt.data.toList = [32, 9] from rfl])
          go_roundg (s.size - (i + 1))
          case measure => omega
          case rel => exact ⟨i + 1, _, by omega, rfl, below_put HB.out _ (Nat.le_refl _) _, by simpa [World.putObj] using hlt, World.putObj_heap_same hlt, fun j hj h1 => by
            by_cases e : j = i
            · subst e; rw [Hx.out]; exact hin
            · exact HN.out j hj (by omega)⟩
        · rw [hin] at hbl
          have hge : ((0 : Int) ≤ Lib.indexByte [32, 9] x) := of_decide_eq_true hbl.symm
          clear hbl
          have HR : Aside (R = i) := HH.out i hi HN.out (by rw [Hx.out]; exact hin)
          go_wp2_with (go_at_call 72; refine (Tryz.strings_IndexRune_ascii _ _ _ (by omega) (by omega)).mono ?_; rintro e w' ⟨rfl, hw⟩; rw [hw, hback, show bt.data.toList = [32, 9] from rfl])
          go_ret
          exact ⟨by rw [HR.out]; rfl, below_put HB.out _ (Nat.le_refl _) _⟩
      · obtain ⟨r, k, hd, hk, hks, hr, hr2, hv, hall⟩ := dec_facts s i hi (by omega)
        have hnx := fun ty => run_next_put (P := Tryz.prog) wr w.heap.size s i ty HI.out hi _ _ hd
        have HA : Aside (∀ (j : Nat) (hj : j < s.size), i ≤ j → j < i + k → 128 ≤ (s[j]'hj).toNat) := hall
        have hv' : (r : Int) = 65533 ∨ Lib.validRune r = true := hv.imp (fun e => by omega) id
        have HV : Aside ((r : Int) = 65533 ∨ Lib.validRune r = true) := hv'
        clear hd hv hv' hall
        go_wp2_with (go_at_call 72; refine (ir_any _ _ (by omega) HV.out).mono ?_; rintro e w' ⟨rfl, hw⟩)
        go_roundg (s.size - (i + k))
        case measure => omega
        case rel =>
          have hp := below_put HB.out w.heap.size (Nat.le_refl _) (.stringIter s (i + k))
          have hsz : (wr.putObj w.heap.size (.stringIter s (i + k))).heap.size = wr.heap.size := by simp [World.putObj]
          refine ⟨i + k, _, by omega, rfl, hp.trans (hw.mono (by omega)), by have := hw.size; omega, ?_, fun j hj h1 => ?_⟩
          · rw [hw.block _ (by omega)]; exact World.putObj_heap_same hlt
          · by_cases e : j < i
            · exact HN.out j hj e
            · have := HA.out j hj (by omega) h1
              cases hb : isBl s[j] with
              | false => rfl
              | true =>
                simp only [isBl, Bool.or_eq_true, beq_iff_eq] at hb
                rcases hb with hb | hb <;> (rw [hb] at this; exact absurd this (by decide))
    · have he : i = s.size := by omega
      subst he
      have hnx := fun ty => run_next_done (P := Tryz.prog) wr w.heap.size s s.size ty HI.out hi
      have HR : Aside (R = -1) := HM.out HN.out
      go_wp2
      go_ret
      exact ⟨by rw [HR.out]; rfl, HB.out⟩

section
variable {W w : World} {R : Reads}

theorem ok64 : FnOK Tryz.prog (GW W) own1 51 gIndexAny := by
  refine ext_ok rfl fun R w args avs rs hP hs hargs hg => ?_
  unfold gIndexAny at hg
  split at hg
  · rename_i s
    split at hg
    · rename_i hl
      injection hg with hg; subst hg
      rw [hargs.str2]
      refine ⟨[.int .i64 (intOf (idxBl s))], fun R' M => vrs_one (.int _ _), ?_⟩
      by_cases h8 : s.length ≤ 8
      · exact any_short ⟨s.toArray⟩ w (by rw [sz]; exact h8) _ (fun i h hn hb => idx_hit' s i h hn hb) (fun hn => idx_miss' s hn)
      · have h116 : (Tryz.prog.info? 117).map (fun i => (i.zero, i.size)) = some (some (.agg (Array.replicate 256 (.bool false))), 256) := by kernel_rfl
        have h := Tryz.strings_IndexAny_long (zero_of_info h116).1 ⟨s.toArray⟩ ⟨#[32, 9]⟩ w (by decide) (by rw [sz]; omega) (by rw [sz]; unfold big at hl; omega) (by decide) (ascii_of_all (by decide))
        simp only [show (⟨#[32, 9]⟩ : ByteArray).data.toList = [32, 9] from rfl, lib_indexAny] at h
        exact h.mono fun e w' ⟨h1, h2⟩ => ⟨h1, by subst h2; exact ((Below.refl _ _).alloc (Nat.le_refl _) _).alloc (by simp) _⟩
    · cases hg
  · cases hg

theorem strsOf_inv : ∀ {ws : List AV} {l : List Str}, strsOf ws = some l → ws = l.map .str
  | [], l, h => by simp [strsOf] at h; subst h; rfl
  | x :: r, l, h => by
    cases x <;> try (simp [strsOf] at h; done)
    simp only [strsOf, Option.map_eq_some_iff] at h
    obtain ⟨m, hm, rfl⟩ := h
    rw [strsOf_inv hm]; rfl

/-- A slice of texts: none, or a row of cells that hold them. -/
theorem VR.strs {M : List Nat} {v : Value} {l : List Str} (hs : Stab R w) (h : VR R M v (.sl 1 (l.map .str))) :
    (l = [] ∧ ∃ A c, v = .slice A 0 c) ∨ (l ≠ [] ∧ ∃ b o c, v = .slice (some ⟨b, o, none⟩) l.length c ∧ l.length ≤ c ∧ b < w.heap.size ∧ ∀ (i : Nat) (hi : i < l.length), w.cell? ⟨b, o + i, none⟩ = some (.string ⟨l[i].toArray⟩) ∧ R ⟨b, o + i, none⟩ (.string ⟨l[i].toArray⟩)) := by
  cases hl : l with
  | nil =>
    left
    subst hl
    obtain ⟨A, n, c, rfl, hn, hc⟩ := h.slice_inv
    exact ⟨rfl, A, c, by rw [hn]; rfl⟩
  | cons x r =>
    right
    have hne : 0 < l.length := by rw [hl]; simp
    rw [← hl]
    refine ⟨fun e => by rw [e] at hne; simp at hne, ?_⟩
    generalize hx : l.map AV.str = xs at h
    cases h with
    | slnil => rw [List.map_eq_nil_iff] at hx; rw [hx] at hne; simp at hne
    | sl a n c _ _ f hn hc hz hR hV =>
    subst hx
    have hn' : n = l.length := by simpa using hn
    subst hn'
    have key : ∀ (i : Nat) (hi : i < l.length), R (a.add i) (.string ⟨l[i].toArray⟩) := by
      intro i hi
      have h1 := hR i 0 (by simpa using hi) (by omega)
      have h2 := hV i 0 (by simpa using hi) (by simp [AV.cells])
      simp only [List.getElem_map, AV.cells, List.getElem_cons_zero] at h2
      rw [h2.str_inv, Nat.mul_one, Nat.add_zero] at h1
      exact h1
    have h0 := (hs _ _ (key 0 hne)).1
    obtain ⟨b, o, sp⟩ := a
    have hsp : sp = none := by
      cases sp with
      | none => rfl
      | some y =>
        have e : (⟨b, o, some y⟩ : Addr).add 0 = ⟨b, o, some y⟩ := by simp [Addr.add]
        rw [e] at h0
        unfold World.cell? at h0
        split at h0 <;> simp at h0
    subst hsp
    refine ⟨b, o, c, rfl, hc, cell_lt h0, fun i hi => ?_⟩
    have h1 := key i hi
    have e : (⟨b, o, none⟩ : Addr).add i = ⟨b, o + i, none⟩ := by unfold Addr.add; split <;> simp_all
    rw [e] at h1
    exact ⟨(hs _ _ h1).1, h1⟩

theorem map_data (l : List Str) : (l.map fun s => (⟨s.toArray⟩ : ByteArray)).map (fun x => x.data.toList) = l := by
  rw [List.map_map]
  have : ((fun x : ByteArray => x.data.toList) ∘ fun s : Str => (⟨s.toArray⟩ : ByteArray)) = _root_.id := by funext s; simp
  rw [this, List.map_id]

theorem ok32 : FnOK Tryz.prog (GW W) own1 132 gJoin := by
  refine ext_ok rfl fun R w args avs rs hP hs hargs hg => ?_
  unfold gJoin at hg
  split at hg
  · rename_i ws sep
    split at hg
    · rename_i l hl
      have hws := strsOf_inv hl
      subst hws
      split at hg
      · rename_i hlen
        injection hg with hg; subst hg
        obtain ⟨v, vs, rfl, h1, h2⟩ := hargs.cons_inv
        rw [h2.str1]
        refine ⟨[.string ⟨(joinL sep l).toArray⟩], fun R' M => vrs_one (.str _), ?_⟩
        rcases h1.strs hs with ⟨rfl, A, c, rfl⟩ | ⟨hne, b, o, c, rfl, hc, hb, hcell⟩
        · have h := Tryz.strings_Join_none A c ⟨sep.toArray⟩ w
          exact h.mono fun e w' ⟨h1, h2⟩ => ⟨h1, h2 ▸ Below.refl _ _⟩
        · have hN : l.length ≤ 140737488355328 := by have := hlen.2; unfold lim at this; omega
          have h := Tryz.strings_Join b o c (l.map fun s => ⟨s.toArray⟩) ⟨sep.toArray⟩ w (fun j x hx => by
              simp only [List.getElem?_map, Option.map_eq_some_iff] at hx
              obtain ⟨s, hs1, rfl⟩ := hx
              obtain ⟨hj, he⟩ := List.getElem?_eq_some_iff.1 hs1
              subst he
              exact (hcell j hj).1) hb (by simpa using hN) (by simpa using hc) (by rw [map_data, lib_join]; have := hlen.1; unfold lim at this; show (joinL sep l).length ≤ _; omega)
          rw [map_data, lib_join] at h
          simp only [List.length_map] at h
          exact h
      · cases hg
    · cases hg
  · cases hg
end
end Go.Proofs.YtmcfnnpihlediaaGreatDoor.Ex

/- text.Number. -/
namespace Go.Proofs.YtmcfnnpihlediaaGreatDoor.Ex
open Go Go.RowKit Go.Shelf Go.Lib

def errV (N : Nat) : Value := .iface 214 (.pointer (some ⟨N, 0, none⟩))

set_option maxHeartbeats 4000000 in
theorem num_err (s : ByteArray) (w : World) (u : Int)
    (h : Calls Tryz.prog 201 #[.string s, .int .i64 10, .int .i64 32] w fun e w' => ∃ N, e = .returned (.tuple #[.int .u64 u, .iface 214 (.pointer (some ⟨N, 0, none⟩))]) ∧ Below w.heap.size w w') :
    Calls Tryz.prog 171 #[.string s] w fun e w' => e = .returned (.tuple #[.int .i64 0, .bool false]) ∧ Below w.heap.size w w' := by
  go_enter Tryz.func171, Tryz.ntmps171
  go_wp2_with (first | (go_at_call 201; refine h.mono ?_; rintro e w' ⟨N, rfl, hb⟩) | fail)
  go_ret2
  exact ⟨rfl, hb⟩

set_option maxHeartbeats 4000000 in
theorem num_long (s : ByteArray) (w : World) (u : Nat) (hl : 9 < s.size)
    (h : Calls Tryz.prog 201 #[.string s, .int .i64 10, .int .i64 32] w fun e w' => e = .returned (.tuple #[.int .u64 u, .nilIface]) ∧ Below w.heap.size w w') :
    Calls Tryz.prog 171 #[.string s] w fun e w' => e = .returned (.tuple #[.int .i64 0, .bool false]) ∧ Below w.heap.size w w' := by
  have hd : decide ((9 : Int) < (s.size : Int)) = true := by simp; omega
  go_enter Tryz.func171, Tryz.ntmps171
  go_wp2_with (first | (go_at_call 201; refine h.mono ?_; rintro e w' ⟨rfl, hb⟩) | fail)
  go_ret2
  exact ⟨rfl, hb⟩

set_option maxHeartbeats 4000000 in
theorem num_short (s d : ByteArray) (w : World) (u : Nat) (hl : ¬ 9 < s.size) (hu : u < 1000000000)
    (h : Calls Tryz.prog 201 #[.string s, .int .i64 10, .int .i64 32] w fun e w' => e = .returned (.tuple #[.int .u64 u, .nilIface]) ∧ Below w.heap.size w w')
    (hI : ∀ w1, Below w.heap.size w w1 → Calls Tryz.prog 86 #[.int .i64 u] w1 fun e w' => e = .returned (.string d) ∧ Below w1.heap.size w1 w') (b : Bool) (hb : (d.toList == s.toList) = b) :
    Calls Tryz.prog 171 #[.string s] w fun e w' => e = .returned (.tuple #[.int .i64 (if b then u else 0), .bool b]) ∧ Below w.heap.size w w' := by
  have hd : decide ((9 : Int) < (s.size : Int)) = false := by simp; omega
  cases b
  all_goals
    go_enter Tryz.func171, Tryz.ntmps171
    go_wp2_with (first | (go_at_call 201; refine h.mono ?_; rintro e w' ⟨rfl, hb⟩) | (go_at_call 86; refine (hI _ (by assumption)).mono ?_; rintro e w2 ⟨rfl, hb2⟩)| fail)
    go_ret2
    exact ⟨rfl, hb.trans (hb2.mono hb.size)⟩

theorem below_bytes (w : World) (s : ByteArray) : Below w.heap.size w (Lib.bytesWorld w 5 s) := Lib.bytesWorld_below w 5 s

theorem ok22 {W : World} (hW : Good W) : FnOK Tryz.prog (GW W) own1 171 gNumber := by
  refine ext_ok rfl fun R w args avs rs hP hs hargs hg => ?_
  unfold gNumber at hg
  split at hg
  · rename_i s
    split at hg
    · cases hg
    rename_i hl
    have hl : s.length ≤ big := by omega
    unfold big at hl
    rw [hargs.str1]
    have key : ∀ (n : Int) (b : Bool), (Calls Tryz.prog 171 #[.string ⟨s.toArray⟩] w fun e w' => e = .returned (.tuple #[.int .i64 n, .bool b]) ∧ Below w.heap.size w w') →
        rs = [.int .i64 n, .bool b] → ∃ vs, (∀ R' M, VRs R' M vs rs) ∧ Calls Tryz.prog 171 [Value.string ⟨s.toArray⟩].toArray w fun e w' => e = .returned (retv vs) ∧ Below w.heap.size w w' := by
      intro n b h hr
      subst hr
      exact ⟨[.int .i64 n, .bool b], fun R' M => vrs_cons (.int _ _) (vrs_one (.bool _)), h⟩
    have e1 : (⟨s.toArray⟩ : ByteArray).data.toList = s := rfl
    rcases hp : Lib.parseUintB 32 s with u | _ | _
    · obtain ⟨h1, h2, h3⟩ := lib_parse_ok s u hp
      have hc : Calls Tryz.prog 201 #[.string ⟨s.toArray⟩, .int .i64 10, .int .i64 32] w fun e w' => e = .returned (.tuple #[.int .u64 u, .nilIface]) ∧ Below w.heap.size w w' :=
        (Tryz.strconv_ParseUint_10_at32_ok ⟨s.toArray⟩ (by rw [sz]; omega) u hp w).mono fun e w' ⟨a, b⟩ => ⟨a, by
          rcases b with rfl | rfl
          · exact Below.refl _ _
          · exact below_bytes _ _⟩
      by_cases h9 : s.length ≤ 9
      · have hu : u < 1000000000 := by
          have := valGo_lt s 0 h2
          have h5 : 10 ^ s.length ≤ 1000000000 := Nat.le_trans (Nat.pow_le_pow_right (by omega) h9) (by decide)
          rw [h3]; omega
        have hI : ∀ w1, Below w.heap.size w w1 → Calls Tryz.prog 86 #[.int .i64 u] w1 fun e w' => e = .returned (.string ⟨(decL u).toArray⟩) ∧ Below w1.heap.size w1 w' := by
          intro w1 hb
          have h := Tryz.strconv_Itoa u (by omega) (by omega) w1 (hW.tabw (hP.trans (hb.mono hP.size)))
          rw [lib_itoa] at h
          exact h.mono fun e w' ⟨h1, k, os, h2⟩ => ⟨h1, by rw [h2]; exact grow_below _ _ _⟩
        have hb : ((⟨(decL u).toArray⟩ : ByteArray).toList == (⟨s.toArray⟩ : ByteArray).toList) = (decL u == s) := by rw [toList_mk, toList_mk]
        have h := num_short ⟨s.toArray⟩ ⟨(decL u).toArray⟩ w u (by rw [sz]; omega) hu hc hI _ hb
        by_cases he : decL u = s
        · have hn : numL s = some u := by unfold numL; rw [if_pos ⟨h9, h2, h1, by rw [← h3]; exact he⟩, ← h3]
          rw [hn] at hg
          injection hg with hg
          have : (decL u == s) = true := by simpa using he
          rw [this] at h
          exact key _ _ h hg.symm
        · have hn : numL s = none := by unfold numL; rw [if_neg (fun h => he (by rw [h3]; exact h.2.2.2))]
          rw [hn] at hg
          injection hg with hg
          have : (decL u == s) = false := by simpa using he
          rw [this] at h
          exact key _ _ h hg.symm
      · have hn : numL s = none := by unfold numL; rw [if_neg (fun h => h9 h.1)]
        rw [hn] at hg
        injection hg with hg
        exact key _ _ (num_long ⟨s.toArray⟩ w u (by rw [sz]; omega) hc) hg.symm
    · have hn := lib_parse_no s (fun u => by rw [hp]; simp)
      rw [hn] at hg
      injection hg with hg
      obtain ⟨te, pe, hev⟩ := hW.esw hP
      have hc0 := Any.strconv_ParseUint_10_at32_syntax Tryz.laysPu14 ⟨s.toArray⟩ (by rw [sz]; omega) hp _ w hev (.inr ⟨te, pe, rfl⟩)
      have hc : Calls Tryz.prog 201 #[.string ⟨s.toArray⟩, .int .i64 10, .int .i64 32] w fun e w' => ∃ N, e = .returned (.tuple #[.int .u64 0, .iface 214 (.pointer (some ⟨N, 0, none⟩))]) ∧ Below w.heap.size w w' :=
        Calls.mono hc0 fun e w' ⟨N, a, _, _, b⟩ => ⟨N, a, b⟩
      exact key _ _ (num_err ⟨s.toArray⟩ w 0 hc) hg.symm
    · have hn := lib_parse_no s (fun u => by rw [hp]; simp)
      rw [hn] at hg
      injection hg with hg
      obtain ⟨te, pe, hev⟩ := hW.erw hP
      have hc := (Tryz.strconv_ParseUint_10_at32_range ⟨s.toArray⟩ (by rw [sz]; omega) hp _ w hev (.inr ⟨te, pe, rfl⟩)).mono (fun e w' ⟨N, a, _, _, b⟩ => (⟨N, a, b⟩ : ∃ N, e = Ending.returned (.tuple #[.int .u64 4294967295, .iface 214 (.pointer (some ⟨N, 0, none⟩))]) ∧ Below w.heap.size w w'))
      exact key _ _ (num_err ⟨s.toArray⟩ w 4294967295 hc) hg.symm
  · cases hg
end Go.Proofs.YtmcfnnpihlediaaGreatDoor.Ex

/- A builder's own writing and reading, block by block. -/
namespace Go.Proofs.YtmcfnnpihlediaaGreatDoor.Ex
open Go Go.RowKit Go.Shelf

theorem size77 : (Tryz.prog.info? 77).map (·.size) = some 2 := by kernel_rfl
theorem lies77 : liesAt Tryz.prog Tryz.prog.depth 77 (2 / Tryz.prog.cellsOf 77) 0 77 1 = true := by kernel_rfl

set_option maxHeartbeats 1000000 in
set_option maxRecDepth 100000 in
theorem cc_used (b : Nat) (w : World) (h0 : w.cell? ⟨b, 0, none⟩ = some (.pointer (some ⟨b, 0, none⟩))) :
    Calls Tryz.prog 48 #[.pointer (some ⟨b, 0, none⟩)] w fun e w' => e = .returned (.tuple #[]) ∧ w' = w := by
  obtain ⟨j, hj, _⟩ := Option.map_eq_some_iff.1 size77
  go_enter Tryz.func48, Tryz.ntmps48
  go_wp2
  rw [Lib.run_neq_ptr_same w _ Tryz.underlying74 hj]
  go_wp2
  go_end0
  exact ⟨rfl, rfl⟩

set_option maxHeartbeats 1000000 in
set_option maxRecDepth 100000 in
theorem cc_fresh (b : Nat) (w : World) (h0 : w.cell? ⟨b, 0, none⟩ = some (.pointer none)) (hsh : w.shape? b = some (77, 2)) (hfz : w.frozen? ⟨b, 0, none⟩ = false) :
    Calls Tryz.prog 48 #[.pointer (some ⟨b, 0, none⟩)] w fun e w' => e = .returned (.tuple #[]) ∧ w' = w.setCell ⟨b, 0, none⟩ (.pointer (some ⟨b, 0, none⟩)) := by
  obtain ⟨j, hj, hjs⟩ := Option.map_eq_some_iff.1 size77
  go_enter Tryz.func48, Tryz.ntmps48
  go_wp2
  rw [Lib.run_to_unsafe w ⟨b, 0, none⟩ Tryz.underlying74 Tryz.underlying111 hj (by rw [hjs]; decide) hsh (Nat.zero_lt_succ 1)]
  simp only [Result.andThen]
  rw [Oper.upon_value]
  go_wp2
  rw [run_callFunc_extern Tryz.func69 (by kernel_rfl) (by kernel_rfl) (by kernel_rfl) (e := Extern.AbiNoEscape.same) (by kernel_rfl)]
  rw [Lib.run_noEscape]
  simp only [Result.andThen]
  rw [Oper.upon_value]
  go_wp2
  rw [Lib.run_from_unsafe w ⟨b, 0, none⟩ Tryz.underlying111 Tryz.underlying74 hj hsh lies77]
  simp only [Result.andThen]
  rw [Oper.upon_value]
  go_wp2
  go_end0
  exact ⟨rfl, rfl⟩

/-- A string appended to a row of one's own: the row is the old one, or a new one. -/
theorem app_str {P : Program} {w : World} (t u ty e : TypeId) (i : TypeInfo) (ht : P.underlying t = some (.slice e)) (hu : P.underlying u = some .string) (hi : P.info? e = some i) (hz : i.zero = some (.int .u8 0))
    (hsize : i.size = 1) (hby : i.bytes = 1) (v : Value) (n : Nat) (xs : List Value) (hown : w.ownsRow 0 e 1 v n xs) (s : ByteArray) (hb : n + s.size ≤ 140737488355328) :
    ∃ v' w', (Builtin.append_ #[t, u] ty #[v, .string s]).run P w = .ok v' w' ∧ w'.ownsRow 0 e 1 v' (n + s.size) (xs ++ Lib.strCells s) ∧ w.grownBy w' v.ownBlock ∧
      ∀ k, v'.ownBlock = some k → v.ownBlock = some k ∨ w.heap.size ≤ k := by
  obtain ⟨v', w', hr, h1, h2, h3⟩ := Lib.run_append_own_string (P := P) w 0 t u ty e i ht hu hi hz hsize hby v n xs hown s (by unfold maxLen; omega) hb (Nat.zero_le _)
  refine ⟨v', w', hr, h1, h2, fun k hk => ?_⟩
  have hxl : xs.length = n := by simpa using hown.1
  rcases hown.2 with ⟨rfl, rfl⟩ | ⟨g, cap, cur, rfl, hbg, hg, hnc, hcm, hcs, htake⟩
  · by_cases hm : s.size = 0
    · rw [h3.2 ⟨rfl, hm⟩] at hk; simp [Value.ownBlock] at hk
    · have hr2 := run_append_nil_string (P := P) w t u ty e i (.int .u8 0) ht hu hi hz s (by omega) (by omega) (by rw [hby]; omega)
      rw [hr] at hr2
      injection hr2 with e1 e2
      rw [e1] at hk
      simp [Value.ownBlock] at hk
      exact .inr (by omega)
  · by_cases hroom : n + s.size ≤ cap
    · have hr2 := Lib.run_append_room_string (P := P) w t u ty e i ht hu hi hsize g n cap cur hg s hroom (by omega)
      rw [hr] at hr2
      injection hr2 with e1 e2
      rw [e1] at hk
      exact .inl hk
    · have holds : ∀ j u, xs[j]? = some u → w.cell? ((⟨g, 0, none⟩ : Addr).add j) = some u := hown.cells (g := g) rfl
      have hr2 := Lib.run_append_grow_string (P := P) w t u ty e i (.int .u8 0) ht hu hi hz ⟨g, 0, none⟩ n cap xs (by rw [hsize]; simpa using hxl) holds s (by omega) (by omega) (by rw [hby]; exact growslice_fits (by omega) (by omega))
      rw [hr] at hr2
      injection hr2 with e1 e2
      rw [e1] at hk
      simp [Value.ownBlock] at hk
      exact .inr (by omega)

theorem wpList_str {P : Program} {w : World} {ops : Array Oper} {rest : List Oper} {o : Oper} {a : Act} {Q : Exit → Act → World → Prop} (hgd : o.guard = none) (sl x : Operand) (t u : TypeId)
    (ho : o.op = .call { callee := .builtin .append, args := #[sl, x], argTypes := #[t, u] })
    (e : TypeId) (i : TypeInfo) (ht : P.underlying t = some (.slice e)) (hu : P.underlying u = some .string) (hi : P.info? e = some i) (hz : i.zero = some (.int .u8 0))
    (hsize : i.size = 1) (hby : i.bytes = 1) (v : Value) (n : Nat) (xs : List Value) (hs : a.eval sl = v) (hown : w.ownsRow 0 e 1 v n xs) (s : ByteArray) (hx : a.eval x = .string s) (hb : n + s.size ≤ 140737488355328)
    (h : ∀ v' w', w'.ownsRow 0 e 1 v' (n + s.size) (xs ++ Lib.strCells s) → w.grownBy w' v.ownBlock → (∀ k, v'.ownBlock = some k → v.ownBlock = some k ∨ w.heap.size ≤ k) → wpList P ops Q rest (a.put o.dst v') w') :
    wpList P ops Q (o :: rest) a w := by
  refine wpList_plain hgd fun K hK => ?_
  obtain ⟨v', w', hr, h2, h3, h4⟩ := app_str (P := P) (w := w) t u o.type e i ht hu hi hz hsize hby v n xs hown s hb
  unfold Oper.wp execOp
  simp only [ho, resolve, invoke, builtin, Sem.run_bind, Sem.run_pure, Result.andThen_ok, List.map_toArray, List.map_cons, List.map_nil, hs, hx, hr]
  exact hK _ _ (h v' w' h2 h3 h4)

theorem info5 : (Tryz.prog.info? 5).map (fun i => (i.zero, i.size, i.bytes)) = some (some (.int .u8 0), 1, 1) := by kernel_rfl

/-- What a builder's writing leaves. -/
def Wrote (w w' : World) (b : Nat) (v : Value) (n : Nat) (xs : List Value) : Prop :=
  ∃ v', w'.heap[b]? = some (.cells #[.pointer (some ⟨b, 0, none⟩), v'] 77 (0, 0)) ∧ w'.ownsRow 0 5 1 v' n xs ∧ v'.ownBlock ≠ some b ∧ (∀ k, v'.ownBlock = some k → v.ownBlock = some k ∨ w.heap.size ≤ k) ∧
    w'.os = w.os ∧ w'.tape = w.tape ∧ w'.output = w.output ∧ w.heap.size ≤ w'.heap.size ∧ ∀ k, k < w.heap.size → k ≠ b → v.ownBlock ≠ some k → w'.heap[k]? = w.heap[k]?

theorem setCell_other (w : World) (b j : Nat) (u : Value) (k : Nat) (h : k ≠ b) : (w.setCell ⟨b, j, none⟩ u).heap[k]? = w.heap[k]? :=
  Below.heap_setCell _ _ _ _ fun e => h (by simp [e])

theorem cc_any (b : Nat) (q v : Value) (w : World) (hq : q = .pointer none ∨ q = .pointer (some ⟨b, 0, none⟩)) (hbk : w.heap[b]? = some (.cells #[q, v] 77 (0, 0))) :
    Calls Tryz.prog 48 #[.pointer (some ⟨b, 0, none⟩)] w fun e w' => e = .returned (.tuple #[]) ∧ w'.heap[b]? = some (.cells #[.pointer (some ⟨b, 0, none⟩), v] 77 (0, 0)) ∧ w'.os = w.os ∧ w'.tape = w.tape ∧ w'.output = w.output ∧
      w'.heap.size = w.heap.size ∧ ∀ k, k ≠ b → w'.heap[k]? = w.heap[k]? := by
  have c0 : w.cell? ⟨b, 0, none⟩ = some q := by rw [Lib.cell_of_heap hbk]; rfl
  rcases hq with rfl | rfl
  · refine (cc_fresh b w c0 (by simp [World.shape?, hbk]) (by simp [World.frozen?, hbk])).mono ?_
    rintro e w' ⟨rfl, rfl⟩
    exact ⟨rfl, by simp [World.setCell, Array.getElem?_modify, hbk], rfl, rfl, rfl, by simp [World.setCell], fun k hk => setCell_other w b 0 _ k hk⟩
  · refine (cc_used b w c0).mono ?_
    rintro e w' ⟨rfl, rfl⟩
    exact ⟨rfl, hbk, rfl, rfl, rfl, rfl, fun _ _ => rfl⟩

set_option maxHeartbeats 2000000 in
set_option maxRecDepth 100000 in
theorem ws_walk (b : Nat) (q v : Value) (n : Nat) (xs : List Value) (w : World) (hq : q = .pointer none ∨ q = .pointer (some ⟨b, 0, none⟩)) (hbk : w.heap[b]? = some (.cells #[q, v] 77 (0, 0))) (hown : w.ownsRow 0 5 1 v n xs) (hne : v.ownBlock ≠ some b)
    (s : ByteArray) (hlen : n + s.size ≤ 140737488355328) :
    Calls Tryz.prog 33 #[.pointer (some ⟨b, 0, none⟩), .string s] w fun e w' => e = .returned (.tuple #[.int .i64 s.size, .nilIface]) ∧ Wrote w w' b v (n + s.size) (xs ++ Lib.strCells s) := by
  obtain ⟨i0, hi, hz0, hz1, hz2⟩ := info_parts info5
  go_enter Tryz.func33, Tryz.ntmps33
  go_wp2_with (go_at_call 48; refine (cc_any b q v _ hq hbk).mono ?_)
  rintro e w1 ⟨rfl, hbk1, ho1, ht1, hu1, hs1, hk1⟩
  have hown1 : w1.ownsRow 0 5 1 v n xs := hown.same fun k hk => hk1 k fun e => hne (by rw [hk, e])
  have c1 : w1.cell? ⟨b, 1, none⟩ = some v := by rw [Lib.cell_of_heap hbk1]; rfl
  go_wp2_with (at_builtin; refine wpList_str rfl _ _ 75 9 rfl 5 i0 Tryz.underlying75 Tryz.underlying9 hi hz0 hz1 hz2 v n xs rfl hown1 s rfl hlen ?_)
  intro v' w2 hown' hgrow hnew
  have hlt : b < w1.heap.size := by
    rcases Nat.lt_or_ge b w1.heap.size with h' | h'
    · exact h'
    · simp [Array.getElem?_eq_none h'] at hbk1
  have hb2 : w2.heap[b]? = some (.cells #[.pointer (some ⟨b, 0, none⟩), v] 77 (0, 0)) := by
    rw [hgrow.block b hlt (fun e => hne e.symm)]
    exact hbk1
  have d1 : w2.cell? ⟨b, 1, none⟩ = some v := by rw [Lib.cell_of_heap hb2]; rfl
  have f1 : w2.frozen? ⟨b, 1, none⟩ = false := Lib.frozen_of_heap hb2 1
  have hne' : v'.ownBlock ≠ some b := Lib.ownBlock_ne hown' hb2 (by decide)
  obtain ⟨ao, n', cap, rfl⟩ : ∃ ao n' cap, v' = .slice ao n' cap := by
    rcases hown'.2 with ⟨hv, _⟩ | ⟨g, cap, cur, hv, _⟩
    · exact ⟨_, _, _, hv⟩
    · exact ⟨_, _, _, hv⟩
  go_wp2
  go_ret2
  refine ⟨rfl, .slice ao n' cap, ?_, ?_, hne', fun k hk => ?_, ?_, ?_, ?_, ?_, fun k hk hkb hkv => ?_⟩
  · simp [World.setCell, Array.getElem?_modify, hb2]
  · exact hown'.same fun k hk => setCell_other w2 b 1 _ k fun e => hne' (by rw [hk, e])
  · rcases hnew k hk with h | h
    · exact .inl h
    · exact .inr (by omega)
  · rw [← ho1]; exact hgrow.os
  · rw [← ht1]; exact hgrow.tape
  · rw [← hu1]; exact hgrow.output
  · have := hgrow.size; simp [World.setCell]; omega
  · rw [setCell_other w2 b 1 _ k hkb, hgrow.block k (by omega) (fun e => hkv e.symm), hk1 k hkb]

end Go.Proofs.YtmcfnnpihlediaaGreatDoor.Ex

/- A builder's reading. -/
namespace Go.Proofs.YtmcfnnpihlediaaGreatDoor.Ex
open Go Go.RowKit Go.Shelf

/-- All but one block stays. -/
def KeptBut (w w' : World) (v : Value) : Prop :=
  w'.os = w.os ∧ w'.tape = w.tape ∧ w'.output = w.output ∧ w.heap.size ≤ w'.heap.size ∧ ∀ k, k < w.heap.size → v.ownBlock ≠ some k → w'.heap[k]? = w.heap[k]?

theorem kept_below {w w' : World} (v : Value) (h : Below w.heap.size w w') : KeptBut w w' v := ⟨h.os, h.tape, h.output, h.size, fun k hk _ => h.block k hk⟩

set_option maxHeartbeats 1000000 in
set_option maxRecDepth 100000 in
theorem str_full (b g cap : Nat) (p : Value) (l : List UInt8) (w : World) (h0 : l ≠ []) (hbk : w.heap[b]? = some (.cells #[p, .slice (some ⟨g, 0, none⟩) l.length cap] 77 (0, 0))) (hown : w.ownsRow 0 5 1 (.slice (some ⟨g, 0, none⟩) l.length cap) l.length (Lib.byteCells l)) :
    Calls Tryz.prog 35 #[.pointer (some ⟨b, 0, none⟩)] w fun e w' => e = .returned (.string ⟨l.toArray⟩) ∧ w' = w.drew.freeze ⟨g, 0, none⟩ l.length := by
  have hl0 : l.length ≠ 0 := by simpa using h0
  obtain ⟨cur, hg, hnc, hcm, hcs, htake⟩ : ∃ cur, w.heap[g]? = some (.cells cur 5 (0, 0)) ∧ l.length ≤ cap ∧ cap ≤ maxLen ∧ cur.size = cap * 1 ∧ cur.toList.take (l.length * 1) = Lib.byteCells l := by
    rcases hown.2 with ⟨_, hz⟩ | ⟨g', cap', cur, hv, _, r⟩
    · exact absurd hz hl0
    · injection hv with e1 e2 e3
      injection e1 with e1
      injection e1 with e1
      subst e1 e3
      exact ⟨cur, r⟩
  have c1 : w.drew.cell? ⟨b, 1, none⟩ = some (.slice (some ⟨g, 0, none⟩) l.length cap) := by
    have : w.drew.heap[b]? = some (.cells #[p, .slice (some ⟨g, 0, none⟩) l.length cap] 77 (0, 0)) := hbk
    rw [Lib.cell_of_heap this]; rfl
  have hSD : (Builtin.unsafeSliceData_ #[75] 92 #[.slice (some ⟨g, 0, none⟩) l.length cap]).run Tryz.prog w.drew = .ok (.pointer (some ⟨g, 0, none⟩)) w.drew :=
    Lib.run_unsafeSliceData_row _ _ _ _ _ _ (by omega)
  have hUS : (Builtin.unsafeString_ #[92, 3] 9 #[.pointer (some ⟨g, 0, none⟩), .int .i64 l.length]).run Tryz.prog w.drew = .ok (.string ⟨l.toArray⟩) (w.drew.freeze ⟨g, 0, none⟩ l.length) := by
    refine Lib.run_unsafeString_row w.drew 92 3 9 5 Tryz.underlying92 (by kernel_rfl) g cur.size (by have hg' : w.drew.heap[g]? = some (.cells cur 5 (0, 0)) := hg; simp [World.shape?, hg']) l h0 (by omega) (by unfold maxLen at hcm; omega) ?_
    intro j x hx
    have := hown.cells (g := g) rfl j (.int .u8 x.toNat) (by simp [Lib.byteCells, hx])
    exact this
  have mixed : Tryz.prog.follows .mixedOrders = true := by kernel_rfl
  go_enter Tryz.func35, Tryz.ntmps35
  go_wp2
  go_region_o
  all_goals (go_wp2; go_ret; exact ⟨rfl, rfl⟩)

theorem freeze_kept (w : World) (g n cap len : Nat) : KeptBut w (w.drew.freeze ⟨g, 0, none⟩ n) (.slice (some ⟨g, 0, none⟩) len cap) := by
  unfold World.freeze
  split
  · exact ⟨rfl, rfl, rfl, Nat.le_refl _, fun _ _ _ => rfl⟩
  · refine ⟨rfl, rfl, rfl, by simp, fun k hk hkg => ?_⟩
    have : g ≠ k := fun e => hkg (by rw [e]; rfl)
    simp [Array.getElem?_modify, this]
    rfl

theorem str_walk (b : Nat) (q v : Value) (l : List UInt8) (w : World) (hbk : w.heap[b]? = some (.cells #[q, v] 77 (0, 0))) (hown : w.ownsRow 0 5 1 v l.length (Lib.byteCells l)) :
    Calls Tryz.prog 35 #[.pointer (some ⟨b, 0, none⟩)] w fun e w' => e = .returned (.string ⟨l.toArray⟩) ∧ KeptBut w w' v := by
  rcases hown.2 with ⟨rfl, hz⟩ | ⟨g, cap, cur, rfl, hbg, hg, hnc, hcm, hcs, htake⟩
  · have hl : l = [] := List.eq_nil_of_length_eq_zero hz
    subst hl
    exact (Any.Builder_String_nil Tryz.lays169 Tryz.Builder_Extra_169 w.heap.size b q w hbk).mono fun e w' ⟨h1, h2⟩ => ⟨h1, kept_below _ h2⟩
  · by_cases hl : l = []
    · subst hl
      by_cases hc0 : cap = 0
      · subst hc0
        exact (Any.Builder_String_noroom Tryz.lays169 Tryz.Builder_Extra_169 w.heap.size b g q cur w (Nat.le_refl _) hbk hg).mono fun e w' ⟨h1, h2⟩ => ⟨h1, kept_below _ h2⟩
      · exact (Any.Builder_String_room Tryz.lays169 Tryz.Builder_Extra_169 w.heap.size b g cap q w hc0 hbk).mono fun e w' ⟨h1, h2⟩ => ⟨h1, kept_below _ h2⟩
    · refine (str_full b g cap q l w hl hbk hown).mono ?_
      rintro e w' ⟨rfl, rfl⟩
      exact ⟨rfl, freeze_kept w g _ cap _⟩

end Go.Proofs.YtmcfnnpihlediaaGreatDoor.Ex

/- A builder as an object: its writing and reading are what the interpreter takes them for. -/
namespace Go.Proofs.YtmcfnnpihlediaaGreatDoor.Ex
open Go Go.RowKit Go.Shelf

section
variable {LOK : LoopA → Prop} {R : Reads} {w w' : World} {bl : BL} {S : Obs}

/-- An object is changed, with all blocks that are its own. -/
theorem SR.upd2 (h : SR LOK R bl w S) {i : Nat} {p : Nat × List Nat} (hi : bl[i]? = some p) {q : List Nat} (hq : q.Nodup) (hk : ∀ k ∈ q, k ∈ p.2 ∨ w.heap.size ≤ k) (hlt : ∀ k ∈ q, k < w'.heap.size)
    (hsz : w.heap.size ≤ w'.heap.size) (hw : ∀ k, k < w.heap.size → k ∉ p.2 → w'.heap[k]? = w.heap[k]?) {ob : Ob} (hob : ObR LOK R (mains bl) w' (p.1, q) ob) :
    SR LOK R (bl.set i (p.1, q)) w' (S.set i ob) := by
  have hk2 : ∀ k ∈ q, k ∈ p.2 ∨ k ∉ fp bl := fun k hkq => (hk k hkq).imp_right fun h1 h2 => by have := h.lt k h2; omega
  refine ⟨by simp [h.len], nodup_set hi h.nodup hq hk2, fun k hk => ?_, fun j p' o' hj hj' => ?_⟩
  · rcases fp_set hi hk with h1 | h1
    · exact Nat.lt_of_lt_of_le (h.lt k h1) hsz
    · exact hlt k h1
  · rw [mains_set hi]
    by_cases hji : j = i
    · subst hji
      have h1 := (List.getElem?_eq_some_iff.1 hi).1
      rw [List.getElem?_set_self h1] at hj
      rw [List.getElem?_set_self (by rw [← h.len]; exact h1)] at hj'
      injection hj with hj; injection hj' with hj'
      subst hj hj'
      exact hob
    · rw [List.getElem?_set_ne (Ne.symm hji)] at hj hj'
      refine (h.obj j p' o' hj hj').keep (fun _ _ h => h) (fun _ _ h => h) (fun a v hr => .inl hr) fun k hkk => ?_
      exact hw k (h.lt _ (fp_at hj _ hkk)) (fp_apart h.nodup hj hi hji k hkk)

theorem Stp.upd2 (hs : Stab R w) {i : Nat} {p : Nat × List Nat} (hi : bl[i]? = some p) {q : List Nat} (hk : ∀ k ∈ q, k ∈ p.2 ∨ w.heap.size ≤ k) (ho : w'.os = w.os) (ht : w'.tape = w.tape) (hu : w'.output = w.output)
    (hsz : w.heap.size ≤ w'.heap.size) (hw : ∀ k, k < w.heap.size → k ∉ p.2 → w'.heap[k]? = w.heap[k]?) (hno : ∀ a u, R a u → a.block ∉ p.2) : Stp R bl w R (bl.set i (p.1, q)) w' := by
  have hf := fp_at hi
  refine ⟨fun _ _ h => h, fun _ _ h => .inl h, fun a v hr => ?_, ho, ht, hu, hsz, fun k hk1 hk2 => ?_, fun j b hb => by rw [mains_set hi]; exact hb, fun k hkk => ?_⟩
  · have := hs a v hr
    exact ⟨by rw [cell_same (hw _ (cell_lt this.1) (hno a v hr))]; exact this.1, this.2⟩
  · exact hw k hk1 (fun e => hk2 (hf _ e))
  · rcases fp_set hi hkk with h1 | h1
    · exact .inl h1
    · rcases hk k h1 with h2 | h2
      · exact .inl (hf _ h2)
      · exact .inr h2

theorem nodup_at (h : SR LOK R bl w S) {i : Nat} {p : Nat × List Nat} (hi : bl[i]? = some p) : p.2.Nodup := by
  obtain ⟨l1, l2, he, _⟩ := set_split hi
  have hn := h.nodup
  rw [he, fp_append, fp_cons] at hn
  exact (List.nodup_append.1 (List.nodup_append.1 hn).2.1).1
end

section
variable {W : World} {own : FuncId → Bool}

theorem bytes_app (s t : Str) : Lib.byteCells (s ++ t) = Lib.byteCells s ++ Lib.strCells ⟨t.toArray⟩ := by
  simp [Lib.byteCells, Lib.strCells]

theorem ok_write : COK (lokB own1) Tryz.prog (GW W) own1 (.f 33) gWrite := by
  intro R bl w S args avs rs S' hG hs hsr hargs h
  unfold gWrite at h
  split at h
  case h_2 => cases h
  rename_i id off t
  split at h
  case h_2 => cases h
  rename_i tb te s hS
  split at h
  case isFalse => cases h
  rename_i hc
  obtain ⟨rfl, rfl, rfl, hlen⟩ := hc
  injection h with h; injection h with e1 e2
  subst e1 e2
  obtain ⟨v1, vs1, rfl, hv1, hvs1⟩ := hargs.cons_inv
  obtain ⟨b, rfl, hb⟩ : ∃ b, v1 = .pointer (some ⟨b, 0, none⟩) ∧ (mains bl)[id]? = some b := by
    cases hv1 with
    | box _ _ b hb => exact ⟨b, rfl, hb⟩
  rw [hvs1.str1]
  obtain ⟨p, hp, rfl⟩ := mains_inv hb
  obtain ⟨qq, hp2, hR, q, v, hq, hbk, hown, hne, hfoot⟩ := hsr.obj id p _ hp hS
  simp only at hfoot hR
  have hnd := nodup_at hsr hp
  rw [hp2] at hnd
  have hnq := (List.nodup_cons.1 hnd).1
  have hwalk := ws_walk p.1 q v s.length (Lib.byteCells s) w hq hbk hown hne ⟨t.toArray⟩ (by rw [sz]; omega)
  show Calls Tryz.prog 33 #[.pointer (some ⟨p.1, 0, none⟩), .string ⟨t.toArray⟩] w _
  refine hwalk.mono ?_
  rintro e w' ⟨rfl, v', k1, k2, k3, k4, ko, kt, ku, ks, kb⟩
  rw [← bytes_app, sz, ← List.length_append] at k2
  let q2 : List Nat := match v'.ownBlock with | some k => [k] | none => []
  have hq2 : ∀ k, k ∈ q2 ↔ v'.ownBlock = some k := by
    intro k
    simp only [q2]
    cases v'.ownBlock with
    | none => simp
    | some x => simp [eq_comm]
  have hkk0 : ∀ k ∈ q2, k ∈ qq ∨ w.heap.size ≤ k := fun k hk => by
    rcases k4 k ((hq2 k).1 hk) with h1 | h1
    · exact .inl (hfoot k h1)
    · exact .inr h1
  have hlt1 : p.1 < w.heap.size := hsr.lt _ (fp_at hp _ (by rw [hp2]; simp))
  have hkk : ∀ k ∈ p.1 :: q2, k ∈ p.2 ∨ w.heap.size ≤ k := fun k hk => by
    rcases List.mem_cons.1 hk with rfl | hk
    · exact .inl (by rw [hp2]; simp)
    · exact (hkk0 k hk).imp_left fun h => by rw [hp2]; exact List.mem_cons_of_mem _ h
  have hw : ∀ k, k < w.heap.size → k ∉ p.2 → w'.heap[k]? = w.heap[k]? := fun k h1 h3 => by
    rw [hp2] at h3
    simp only [List.mem_cons, not_or] at h3
    exact kb k h1 h3.1 fun e => h3.2 (hfoot k e)
  have hR2 : ∀ a u, R a u → a.block ∉ p.2 := fun a u hr => by
    rw [hp2]; simp only [List.mem_cons, not_or]; exact hR a u hr
  refine .inl ⟨[.int .i64 (⟨t.toArray⟩ : ByteArray).size, .nilIface], R, bl.set id (p.1, p.1 :: q2), rfl, ?_, Stp.upd2 hs hp hkk ko kt ku ks hw hR2, ?_, fun ho => by cases ho⟩
  · rw [sz]
    exact vrs_cons (.int _ _) (vrs_one .errn)
  · refine hsr.upd2 hp (List.nodup_cons.2 ⟨fun hk => k3 ((hq2 _).1 hk), by simp only [q2]; cases v'.ownBlock <;> simp⟩) hkk (fun k hk => ?_) ks hw ?_
    · rcases List.mem_cons.1 hk with rfl | hk
      · omega
      · exact (k2.lt k ((hq2 k).1 hk)).2
    refine ⟨q2, rfl, fun a u hr => ⟨(hR a u hr).1, fun hm => ?_⟩, _, v', .inr rfl, k1, k2, k3, fun k hk => (hq2 k).2 hk⟩
    rcases hkk0 _ hm with h1 | h1
    · exact (hR a u hr).2 h1
    · have := cell_lt (hs a u hr).1
      omega

theorem ok_string : COK (lokB own1) Tryz.prog (GW W) own1 (.f 35) gString := by
  intro R bl w S args avs rs S' hG hs hsr hargs h
  unfold gString at h
  split at h
  case h_2 => cases h
  rename_i id off
  split at h
  case h_2 => cases h
  rename_i tb te s hS
  split at h
  case isFalse => cases h
  rename_i hc
  obtain ⟨rfl, rfl, rfl⟩ := hc
  injection h with h; injection h with e1 e2
  subst e1 e2
  obtain ⟨v1, vs1, rfl, hv1, hvs1⟩ := hargs.cons_inv
  obtain ⟨b, rfl, hb⟩ : ∃ b, v1 = .pointer (some ⟨b, 0, none⟩) ∧ (mains bl)[id]? = some b := by
    cases hv1 with
    | box _ _ b hb => exact ⟨b, rfl, hb⟩
  rw [hvs1.nil_inv]
  obtain ⟨p, hp, rfl⟩ := mains_inv hb
  obtain ⟨qq, hp2, hR, q, v, hq, hbk, hown, hne, hfoot⟩ := hsr.obj id p _ hp hS
  simp only at hfoot hR
  have hnd := nodup_at hsr hp
  show Calls Tryz.prog 35 #[.pointer (some ⟨p.1, 0, none⟩)] w _
  refine (str_walk p.1 q v s w hbk hown).mono ?_
  rintro e w' ⟨rfl, ko, kt, ku, ks, kb⟩
  have hw : ∀ k, k < w.heap.size → k ∉ p.2 → w'.heap[k]? = w.heap[k]? := fun k h1 h3 => kb k h1 fun e => h3 (by rw [hp2]; exact List.mem_cons_of_mem _ (hfoot k e))
  have hR2 : ∀ a u, R a u → a.block ∉ p.2 := fun a u hr => by
    rw [hp2]; simp only [List.mem_cons, not_or]; exact hR a u hr
  have hf := fp_at hp
  refine .inl ⟨[.string ⟨s.toArray⟩], R, bl.set id (p.1, p.2), rfl, vrs_one (.str _), Stp.upd2 hs hp (fun k hk => .inl hk) ko kt ku ks hw hR2, ?_, fun ho => by cases ho⟩
  exact hsr.upd2 hp hnd (fun k hk => .inl hk) (fun k hk => Nat.lt_of_lt_of_le (hsr.lt k (hf k hk)) ks) ks hw trivial

theorem eo_all : ∀ f h, eo0 f = some h → callable Tryz.prog f = true ∧ COK (lokB own1) Tryz.prog (GW W) own1 (.f f) h := by
  intro f h hf
  unfold eo0 at hf
  split at hf
  · injection hf with hf; subst hf; exact ⟨by kernel_rfl, ok_write⟩
  · injection hf with hf; subst hf; exact ⟨by kernel_rfl, ok_string⟩
  · cases hf

end
end Go.Proofs.YtmcfnnpihlediaaGreatDoor.Ex

/- A stack with one more. -/
namespace Go.Proofs.YtmcfnnpihlediaaGreatDoor.Ex
open Go Go.RowKit Go.Shelf

theorem wpList_app_run {P : Program} {w : World} {ops : Array Oper} {rest : List Oper} {o : Oper} {a : Act} {Q : Exit → Act → World → Prop} (hgd : o.guard = none) (sl x : Operand) (t u : TypeId)
    (ho : o.op = .call { callee := .builtin .append, args := #[sl, x], argTypes := #[t, u] }) (v y : Value) (hs : a.eval sl = v) (hx : a.eval x = y) {v' : Value} {w' : World}
    (hr : (Builtin.append_ #[t, u] o.type #[v, y]).run P w = .ok v' w') (h : wpList P ops Q rest (a.put o.dst v') w') : wpList P ops Q (o :: rest) a w := by
  refine wpList_plain hgd fun K hK => ?_
  unfold Oper.wp execOp
  simp only [ho, resolve, invoke, builtin, Sem.run_bind, Sem.run_pure, Result.andThen_ok, List.map_toArray, List.map_cons, List.map_nil, hs, hx, hr]
  exact hK _ _ h

def Pushed (w w' : World) (e : Ending) (n : Nat) (cells : List Value) : Prop :=
  ∃ b cap rest, e = .returned (.slice (some ⟨b, 0, none⟩) n cap) ∧ n ≤ cap ∧ w.heap.size ≤ b ∧ w'.heap[b]? = some (.cells (cells ++ rest).toArray 5 (0, 0)) ∧ Below w.heap.size w w'

theorem new_at (w : World) (o : Obj) (c c' : Array Value) (h : c = c') : ((w.alloc o).alloc (.cells c 5)).drew.heap[w.heap.size + 1]? = some (.cells c' 5) := by
  subst h
  have hsz : (w.alloc o).heap.size = w.heap.size + 1 := Array.size_push ..
  rw [← hsz]
  exact heap_alloc_new (w.alloc o) _

set_option maxHeartbeats 2000000 in
set_option maxRecDepth 100000 in
theorem push_some (a : Addr) (n c : Nat) (olds : List Value) (x : Int) (w : World) (hn : olds.length = n) (hnc : n ≤ c) (hold : ∀ j v, olds[j]? = some v → w.cell? (a.add j) = some v) (hsm : n ≤ 1000000000) :
    Calls Tryz.prog 116 #[.slice (some a) n c, .int .u8 x] w fun e w' => Pushed w w' e (n + 1) (olds ++ [.int .u8 x]) := by
  obtain ⟨i0, hi, hz0, hz1, hz2⟩ := info_parts info5
  have b1 : (n : Int) ≤ (c : Int) := by omega
  go_enter Tryz.func116, Tryz.ntmps116
  have hcell : ∀ j u, olds[j]? = some u → (w.alloc (.cells #[.int .u8 x] 5)).cell? (a.add j) = some u := fun j u hj => by
    have h1 := hold j u hj
    rw [cell_same (w := w) (Lib.alloc_old w _ _ (cell_lt h1))]; exact h1
  have hnew : ∀ j u, [Value.int .u8 x][j]? = some u → (w.alloc (.cells #[.int .u8 x] 5)).cell? ((⟨w.heap.size, 0, none⟩ : Addr).add j) = some u := fun j u hj => by
    match j, hj with
    | 0, hj => simp at hj; subst hj; rw [add_plain, cells_of_block (heap_alloc_new w _)]; rfl
  have hrun := fun ty => run_append_grow (P := Tryz.prog) (w.alloc (.cells #[.int .u8 x] 5)) 129 ty 5 i0 (.int .u8 0) Tryz.underlying129 hi hz0 a n n olds (by rw [hz1]; simpa using hn) hcell ⟨w.heap.size, 0, none⟩ 1 1 [.int .u8 x] (by rw [hz1]; rfl) hnew (by omega) (by omega)
    (growslice_fits (by omega) (by rw [hz2]; omega))
  go_wp2_with (at_builtin; refine wpList_app_run rfl _ _ 129 129 rfl _ _ rfl rfl (hrun _) ?_)
  go_wp2
  go_ret
  refine ⟨_, _, (Builtin.zeroCells (Value.int .u8 0).cells (grownCap (w.alloc (.cells #[.int .u8 x] 5)) (n + 1) n 5 - (n + 1))).toList, rfl, grownCap_ge _ _ _ _, by simp, ?_, ?_⟩
  · exact new_at w _ _ _ (by apply Array.toList_inj.1; simp)
  · exact ((Below.refl _ w).alloc (Nat.le_refl _) _).drew.alloc (by simp) _

theorem push_none (x : Int) (w : World) : Calls Tryz.prog 116 #[.slice none 0 0, .int .u8 x] w fun e w' => Pushed w w' e 1 [.int .u8 x] := by
  obtain ⟨i0, hi, hz0, hz1, hz2⟩ := info_parts info5
  go_enter Tryz.func116, Tryz.ntmps116
  have hnew : ∀ j u, [Value.int .u8 x][j]? = some u → (w.alloc (.cells #[.int .u8 x] 5)).cell? ((⟨w.heap.size, 0, none⟩ : Addr).add j) = some u := fun j u hj => by
    match j, hj with
    | 0, hj => simp at hj; subst hj; rw [add_plain, cells_of_block (heap_alloc_new w _)]; rfl
  have hrun := fun ty => run_append_nil (P := Tryz.prog) (w.alloc (.cells #[.int .u8 x] 5)) 129 ty 5 i0 (.int .u8 0) Tryz.underlying129 hi hz0 ⟨w.heap.size, 0, none⟩ 1 1 [.int .u8 x] (by rw [hz1]; rfl) hnew (by omega) (by omega) (by rw [hz2]; omega)
  go_wp2_with (at_builtin; refine wpList_app_run rfl _ _ 129 129 rfl _ _ rfl rfl (hrun _) ?_)
  go_wp2
  go_ret
  refine ⟨_, _, (Builtin.zeroCells (Value.int .u8 0).cells (grownCap (w.alloc (.cells #[.int .u8 x] 5)) 1 0 5 - 1)).toList, rfl, by simpa using grownCap_ge (w.alloc (.cells #[.int .u8 x] 5)) 1 0 5, by simp, ?_, ?_⟩
  · exact new_at w _ _ _ (by apply Array.toList_inj.1; simp)
  · exact ((Below.refl _ w).alloc (Nat.le_refl _) _).drew.alloc (by simp) _

theorem byteAV_cells (s : Str) : ∀ i (hi : i < (s.map byteAV).length), (s.map byteAV)[i].cells.length = 1 := fun i hi => by simp [byteAV, AV.cells]

theorem bytesOf_inv : ∀ {xs : List AV} {s : Str}, bytesOf xs = some s → xs = s.map byteAV
  | [], s, h => by simp [bytesOf] at h; subst h; rfl
  | x :: r, s, h => by
    cases x with
    | int k n =>
      cases k with
      | u8 =>
        simp only [bytesOf] at h
        split at h
        · rename_i hn
          simp only [Option.map_eq_some_iff] at h
          obtain ⟨t, ht, rfl⟩ := h
          rw [bytesOf_inv ht]
          simp only [List.map_cons, byteAV]
          congr 2
          have : n.toNat < 256 := by omega
          simp [UInt8.toNat_ofNat']
          omega
        · cases h
      | _ => simp [bytesOf] at h
    | _ => simp [bytesOf] at h

/-- A row of bytes, new. -/
theorem vr_newbytes {R : Reads} {w w' : World} {e : Ending} (hs : Stab R w) (l : Str) (h : Pushed w w' e l.length (Lib.byteCells l)) (hl : l ≠ []) :
    ∃ v R', e = .returned v ∧ VR R' [] v (.sl 1 (l.map byteAV)) ∧ St R w R' w' none := by
  obtain ⟨b, cap, rest, rfl, h1, h2, h3, h4⟩ := h
  refine ⟨_, addR R b 0 (Lib.byteCells l), rfl, ?_, ⟨fun _ _ h => .inl h, fun a v hr => ?_, fun a v hr => ?_, h4.os, h4.tape, h4.output, h4.size, fun k hk _ => h4.block k hk⟩⟩
  · refine .sl _ _ _ _ _ (fun i _ => .int .u8 ((l[i]?.getD 0).toNat)) (by simp) h1 (byteAV_cells l) ?_ ?_
    · intro i j hi hj
      have hi' : i < l.length := by simpa using hi
      rw [add_plain]
      refine .inr ⟨i * 1 + j, by simp, ?_⟩
      have : j = 0 := by omega
      subst this
      simp [Lib.byteCells, List.getElem?_eq_getElem hi']
    · intro i j hi hj
      have hi' : i < l.length := by simpa using hi
      have : j = 0 := by simp [byteAV, AV.cells] at hj; exact hj
      subst this
      simp only [List.getElem_map, byteAV, AV.cells, List.getElem_cons_zero, List.getElem?_eq_getElem hi', Option.getD_some]
      exact .int _ _
  · rcases hr with hr | ⟨j, rfl, hj⟩
    · exact .inl hr
    · exact .inr (.inr h2)
  · rcases hr with hr | ⟨j, rfl, hj⟩
    · have := hs a v hr
      exact ⟨by rw [cell_same (h4.block _ (cell_lt this.1))]; exact this.1, this.2⟩
    · refine ⟨?_, ?_⟩
      · rw [cells_of_block h3]
        obtain ⟨hlt, _⟩ := List.getElem?_eq_some_iff.1 hj
        simp only [List.getElem?_toArray, Nat.zero_add, List.getElem?_append_left hlt]
        exact hj
      · obtain ⟨hlt, he⟩ := List.getElem?_eq_some_iff.1 hj
        subst he
        simp [Lib.byteCells, Value.oneCell']

theorem ok116 {W : World} : FnOK Tryz.prog (GW W) own1 116 gPush := by
  intro R w args avs rs hP hb hs hargs hg
  unfold gPush at hg
  split at hg
  case h_2 => cases hg
  rename_i xs n
  split at hg
  case h_2 => cases hg
  rename_i s hxs
  split at hg
  case isFalse => cases hg
  rename_i hc
  injection hg with hg; subst hg
  have hxs := bytesOf_inv hxs
  subst hxs
  obtain ⟨v1, vs1, rfl, hv1, hvs1⟩ := hargs.cons_inv
  obtain ⟨v2, vs2, rfl, hv2, hvs2⟩ := hvs1.cons_inv
  rw [hvs2.nil_inv, hv2.int_inv]
  have hnb : Value.int .u8 n = .int .u8 ((UInt8.ofNat n.toNat).toNat) := by
    congr 1
    simp [UInt8.toNat_ofNat']
    omega
  have fin : ∀ {e : Ending} {w' : World}, Pushed w w' e (s.length + 1) (Lib.byteCells s ++ [.int .u8 n]) → ∃ vs R', e = .returned (retv vs) ∧ VRs R' [] vs [.sl 1 ((s ++ [UInt8.ofNat n.toNat]).map byteAV)] ∧ St R w R' w' none ∧
      (own1 116 = true → ∃ v sz xs, vs = [v] ∧ [AV.sl 1 ((s ++ [UInt8.ofNat n.toNat]).map byteAV)] = [.sl sz xs] ∧ OwnV R' w.heap.size w' v sz) := by
    intro e w' h
    have e1 : Lib.byteCells s ++ [.int .u8 n] = Lib.byteCells (s ++ [UInt8.ofNat n.toNat]) := by rw [hnb]; simp [Lib.byteCells]
    rw [e1] at h
    obtain ⟨v, R', he, hv, hst⟩ := vr_newbytes hs (s ++ [UInt8.ofNat n.toNat]) (by simpa using h) (by simp)
    exact ⟨[v], R', he, vrs_one hv, hst, fun ho => by cases ho⟩
  obtain ⟨A, m, c, hsl, hm, hmc⟩ := hv1.slice_inv
  rw [hsl] at hv1 ⊢
  obtain ⟨vals, f, hvl, hn, hc2, hone, hz, hat, hvr, hR, hnil⟩ := hv1.list hs (by decide)
  have hvals : vals = Lib.byteCells s := by
    apply List.ext_getElem?
    intro k
    rcases Nat.lt_or_ge k s.length with hk | hk
    · have hk' : k < (s.map byteAV).length := by simpa using hk
      have h1 := hat k 0 hk' (by decide)
      have h2 := hvr k 0 hk' (by simp [byteAV, AV.cells])
      simp only [List.getElem_map, byteAV, AV.cells, List.getElem_cons_zero] at h2
      rw [Nat.mul_one, Nat.add_zero] at h1
      rw [h1, h2.int_inv]
      simp [Lib.byteCells, List.getElem?_eq_getElem hk]
    · rw [List.getElem?_eq_none (by rw [hvl, hn]; simpa using hk), List.getElem?_eq_none (by simpa [Lib.byteCells] using hk)]
  have hms : m = s.length := by rw [hn]; simp
  subst hvals
  cases A with
  | none =>
    obtain ⟨h1, h2⟩ := hnil rfl
    subst h1 h2
    have hs0 : s = [] := List.eq_nil_of_length_eq_zero hms.symm
    subst hs0
    exact (push_none n w).mono fun e w' h => fin h
  | some a =>
    refine (push_some a m c (Lib.byteCells s) n w (by rw [hms]; simp [Lib.byteCells]) hmc (fun j v hj => (hs _ _ (hR a rfl j v hj)).1) (by omega)).mono fun e w' h => ?_
    rw [hms] at h
    exact fin h

end Go.Proofs.YtmcfnnpihlediaaGreatDoor.Ex

/- Loops by count; the examples; pieces of words. -/
namespace Go.Proofs.YtmcfnnpihlediaaGreatDoor.Ex
open Go

/-- A loop that counts to the end. -/
theorem iter_count {E : Cfg → Option (PX × Cfg)} {S : Obs} {D : List Nat} (id : Nat) (I : Nat → PF → Prop) (len : Nat)
    (step : ∀ i pf, i < len → I i pf → ∃ pf', E ⟨pf, S, D⟩ = some (.norm, ⟨pf', S, D⟩) ∧ I (i + 1) pf')
    (stop : ∀ pf, I len pf → ∃ pf', E ⟨pf, S, D⟩ = some (.ex id, ⟨pf', S, D⟩) ∧ I len pf') :
    ∀ (k i n : Nat) (pf : PF) (r : Option (PX × Cfg)), i + k = len → iter E n ⟨pf, S, D⟩ = r → I i pf → k < n → ∃ pf', r = some (.ex id, ⟨pf', S, D⟩) ∧ I len pf' := by
  intro k
  induction k with
  | zero =>
    intro i n pf r hi hr hI hn
    obtain ⟨n, rfl⟩ : ∃ m, n = m + 1 := ⟨n - 1, by omega⟩
    have : i = len := by omega
    subst this
    obtain ⟨pf', he, hI'⟩ := stop pf hI
    simp only [iter, he] at hr
    exact ⟨pf', hr.symm, hI'⟩
  | succ k ih =>
    intro i n pf r hi hr hI hn
    obtain ⟨n, rfl⟩ : ∃ m, n = m + 1 := ⟨n - 1, by omega⟩
    obtain ⟨pf', he, hI'⟩ := step i pf (by omega) hI
    simp only [iter, he] at hr
    exact ih (i + 1) n pf' r (by omega) hr hI' (by omega)

/-- A loop with a measure. -/
theorem iter_gen {E : Cfg → Option (PX × Cfg)} {S : Obs} {D : List Nat} {σ : Type} (μ : σ → Nat) (I : σ → PF → Prop) (Q : PX → PF → Prop)
    (step : ∀ s pf, I s pf → (∃ s' pf', E ⟨pf, S, D⟩ = some (.norm, ⟨pf', S, D⟩) ∧ μ s' < μ s ∧ I s' pf') ∨ (∃ x pf', x ≠ .norm ∧ E ⟨pf, S, D⟩ = some (x, ⟨pf', S, D⟩) ∧ Q x pf')) :
    ∀ (n : Nat) (s : σ) (pf : PF) (r : Option (PX × Cfg)), iter E n ⟨pf, S, D⟩ = r → I s pf → μ s < n → ∃ x pf', r = some (x, ⟨pf', S, D⟩) ∧ Q x pf' := by
  intro n
  induction n with
  | zero => intro s pf r _ _ h; omega
  | succ n ih =>
    intro s pf r hr hI hn
    rcases step s pf hI with ⟨s', pf', he, hm, hI'⟩ | ⟨x, pf', hx, he, hq⟩
    · simp only [iter, he] at hr
      exact ih s' pf' r hr hI' (by omega)
    · refine ⟨x, pf', ?_, hq⟩
      cases x with
      | norm => exact absurd rfl hx
      | ex i => simp only [iter, he] at hr; exact hr.symm
      | ret => simp only [iter, he] at hr; exact hr.symm
      | pan v => simp only [iter, he] at hr; exact hr.symm

/-- A loop with a measure, where the objects change too. -/
theorem iter_cfg {E : Cfg → Option (PX × Cfg)} {σ : Type} (μ : σ → Nat) (I : σ → Cfg → Prop) (Q : PX → Cfg → Prop)
    (step : ∀ s c, I s c → (∃ s' c', E c = some (.norm, c') ∧ μ s' < μ s ∧ I s' c') ∨ (∃ x c', x ≠ .norm ∧ E c = some (x, c') ∧ Q x c')) :
    ∀ (n : Nat) (s : σ) (c : Cfg) (r : Option (PX × Cfg)), iter E n c = r → I s c → μ s < n → ∃ x c', r = some (x, c') ∧ Q x c' := by
  intro n
  induction n with
  | zero => intro s c r _ _ h; omega
  | succ n ih =>
    intro s c r hr hI hn
    rcases step s c hI with ⟨s', c', he, hm, hI'⟩ | ⟨x, c', hx, he, hq⟩
    · simp only [iter, he] at hr
      exact ih s' c' r hr hI' (by omega)
    · refine ⟨x, c', ?_, hq⟩
      cases x with
      | norm => exact absurd rfl hx
      | ex i => simp only [iter, he] at hr; exact hr.symm
      | ret => simp only [iter, he] at hr; exact hr.symm
      | pan v => simp only [iter, he] at hr; exact hr.symm

end Go.Proofs.YtmcfnnpihlediaaGreatDoor.Ex

/- What is known of the callees at any depth that is great enough; pieces of words. -/
namespace Go.Proofs.YtmcfnnpihlediaaGreatDoor.Ex
open Go

def deep (n : Nat) : Prop := 3000000 ≤ n
theorem deep_some : ∃ n, deep n := ⟨3000000, by unfold deep; exact Nat.le_refl _⟩

section
variable [XX] {n : Nat}
theorem a19 (hn : deep n) (s : Str) (hs : s.length ≤ 2000000) : callP (F n) (.f 110) [.str s] = some (.sl 1 ((wordsL s).map .str)) := by
  unfold deep at hn; exact cp19 n s (by omega) (by omega)
theorem a14 (hn : deep n) (hX : Full) (name : Str) (args : List Str) (ha : ∀ a ∈ args, a.length ≤ 100000) : callP (F n) (.f 85) [.str name, .sl 1 (args.map .str)] = some (.tup [.str (callL name args).1, .int .i64 (callL name args).2]) := by
  unfold deep at hn
  obtain ⟨m, rfl⟩ : ∃ m, n = m + 20 := ⟨n - 20, by omega⟩
  exact cp14 hX m name args ha (fun a h => by have := ha a h; omega)
theorem a16 (hn : deep n) (name : Str) : callP (F n) (.f 76) [.str name] = some (.int .i64 (manyL name)) := by
  unfold deep at hn
  obtain ⟨m, rfl⟩ : ∃ m, n = m + 1 := ⟨n - 1, by omega⟩
  exact cp16 m name
theorem a17 (hn : deep n) (name : Str) : callP (F n) (.f 92) [.str name] = some (.int .i64 (manyL name)) := by
  unfold deep at hn
  obtain ⟨m, rfl⟩ : ∃ m, n = m + 1 := ⟨n - 1, by omega⟩
  exact cp17 m name
theorem a21 (hn : deep n) (l : List Str) (h : (joinL [32] l).length ≤ lim) : callP (F n) (.f 111) [.sl 1 (l.map .str)] = some (.str (joinL [32] l)) := by
  unfold deep at hn
  obtain ⟨m, rfl⟩ : ∃ m, n = m + 2 := ⟨n - 2, by omega⟩
  exact cp21 m l h
theorem a24 (hn : deep n) (s : Str) (hs : s.length ≤ big) : callP (F n) (.f 80) [.str s] = some (.str (trimB s)) := by
  unfold deep at hn
  obtain ⟨m, rfl⟩ : ∃ m, n = m + 2 := ⟨n - 2, by omega⟩
  exact cp24 m s hs
theorem a22 (hn : deep n) (s : Str) (hs : s.length ≤ big) : callP (F n) (.f 171) [.str s] = some (.tup [.int .i64 (numP s).1, .bool (numP s).2]) := by
  unfold deep at hn
  obtain ⟨m, rfl⟩ : ∃ m, n = m + 1 := ⟨n - 1, by omega⟩
  exact cp22 m s hs
end

end Go.Proofs.YtmcfnnpihlediaaGreatDoor.Ex
