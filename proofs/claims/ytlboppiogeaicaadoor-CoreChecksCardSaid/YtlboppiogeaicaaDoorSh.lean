/-
  DERIVED: THE SHELF's CONTRACTS AT THIS DUMP, IN PLAIN WORDS (tools/lay-plain.mjs out of 'YtlboppiogeaicaaDoorShelfD.lean', which tools/lay-shelf.mjs wrote): THE SAME DECLARATIONS UNDER THE SAME NAMES: 'import', 'namespace', 'open', 'def', 'theorem' AND NOTHING ELSE: no command of the shelf's: FOR A HAND-IN. Each laying: the table of numbers ('.._ren') and one theorem, a field a fact of the dump's own or the kernel's comparison; each contract: ONE APPLICATION.
-/
import Derived.Test.YtlboppiogeaicaaDoorProg
import Derived.Shelf.Lays
namespace Go.Proofs
open Go.Shelf
def Tryd.lays189_ren : Go.Shelf.Ren := ⟨fun | 189 => 76 | 125 => 99 | 257 => 107 | 128 => 122 | 129 => 123 | 294 => 126 | 295 => 127 | 296 => 128 | 297 => 129 | 298 => 130 | 299 => 131 | 216 => 132 | 300 => 133 | 301 => 134 | 328 => 143 | 329 => 137 | 330 => 138 | 331 => 144 | 332 => 145 | 215 => 100 | 343 => 148 | n => n, fun | 28 => 25 | 3 => 3 | 46 => 146 | 0 => 0 | 51 => 165 | 53 => 139 | 4 => 4 | 183 => 159 | 182 => 158 | 131 => 150 | 5 => 5 | 9 => 9 | 218 => 173 | 222 => 177 | 228 => 183 | 229 => 184 | n => n, fun | n => n⟩
theorem Tryd.lays189 : Go.Proofs.Lays.n189 Tryd.prog Tryd.lays189_ren := {
  mixed := by kernel_rfl
  f125 := Tryd.func99.trans (congrArg some (by kernel_rfl))
  f128 := Tryd.func122.trans (congrArg some (by kernel_rfl))
  f129 := Tryd.func123.trans (congrArg some (by kernel_rfl))
  f189 := Tryd.func76.trans (congrArg some (by kernel_rfl))
  f215 := Tryd.func100.trans (congrArg some (by kernel_rfl))
  f216 := Tryd.func132.trans (congrArg some (by kernel_rfl))
  f257 := Tryd.func107.trans (congrArg some (by kernel_rfl))
  f294 := Tryd.func126.trans (congrArg some (by kernel_rfl))
  f295 := Tryd.func127.trans (congrArg some (by kernel_rfl))
  f296 := Tryd.func128.trans (congrArg some (by kernel_rfl))
  f297 := Tryd.func129.trans (congrArg some (by kernel_rfl))
  f298 := Tryd.func130.trans (congrArg some (by kernel_rfl))
  f299 := Tryd.func131.trans (congrArg some (by kernel_rfl))
  f300 := Tryd.func133.trans (congrArg some (by kernel_rfl))
  f301 := Tryd.func134.trans (congrArg some (by kernel_rfl))
  f328 := Tryd.func143.trans (congrArg some (by kernel_rfl))
  f329 := Tryd.func137.trans (congrArg some (by kernel_rfl))
  f330 := Tryd.func138.trans (congrArg some (by kernel_rfl))
  f331 := Tryd.func144.trans (congrArg some (by kernel_rfl))
  f332 := Tryd.func145.trans (congrArg some (by kernel_rfl))
  f343 := Tryd.func148.trans (congrArg some (by kernel_rfl))
  t0 := Tryd.underlying0
  a0 := Tryd.isAgg0
  z0 := Tryd.sizeOf0
  v0 := Tryd.zeroValue0
  t3 := Tryd.underlying3
  a3 := Tryd.isAgg3
  z3 := Tryd.sizeOf3
  v3 := Tryd.zeroValue3
  t4 := Tryd.underlying4
  a4 := Tryd.isAgg4
  z4 := Tryd.sizeOf4
  v4 := Tryd.zeroValue4
  t5 := Tryd.underlying5
  a5 := Tryd.isAgg5
  z5 := Tryd.sizeOf5
  v5 := Tryd.zeroValue5
  t9 := Tryd.underlying9
  a9 := Tryd.isAgg9
  z9 := Tryd.sizeOf9
  v9 := Tryd.zeroValue9
  t28 := Tryd.underlying25
  a28 := Tryd.isAgg25
  z28 := Tryd.sizeOf25
  v28 := Tryd.zeroValue25
  t46 := Tryd.underlying146
  a46 := Tryd.isAgg146
  z46 := Tryd.sizeOf146
  v46 := Tryd.zeroValue146
  t51 := Tryd.underlying165
  a51 := Tryd.isAgg165
  z51 := Tryd.sizeOf165
  v51 := Tryd.zeroValue165
  t53 := Tryd.underlying139
  a53 := Tryd.isAgg139
  z53 := Tryd.sizeOf139
  v53 := Tryd.zeroValue139
  t131 := Tryd.underlying150
  a131 := Tryd.isAgg150
  z131 := Tryd.sizeOf150
  v131 := Tryd.zeroValue150
  t182 := Tryd.underlying158
  a182 := Tryd.isAgg158
  z182 := Tryd.sizeOf158
  v182 := Tryd.zeroValue158
  t183 := Tryd.underlying159
  a183 := Tryd.isAgg159
  z183 := Tryd.sizeOf159
  v183 := Tryd.zeroValue159
  t218 := Tryd.underlying173
  a218 := Tryd.isAgg173
  z218 := Tryd.sizeOf173
  v218 := Tryd.zeroValue173
  t222 := Tryd.underlying177
  a222 := Tryd.isAgg177
  z222 := Tryd.sizeOf177
  v222 := Tryd.zeroValue177
  t228 := Tryd.underlying183
  a228 := Tryd.isAgg183
  z228 := Tryd.sizeOf183
  v228 := Tryd.zeroValue183
  t229 := Tryd.underlying184
  a229 := Tryd.isAgg184
  z229 := Tryd.sizeOf184
  v229 := Tryd.zeroValue184 }
end Go.Proofs
