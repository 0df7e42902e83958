/-
  DERIVED: THE SHELF's CONTRACTS AT THIS DUMP, IN PLAIN WORDS (tools/lay-plain.mjs out of 'TryzShS.lean', which tools/lay-shelf.mjs wrote): THE SAME DECLARATIONS UNDER THE SAME NAMES: 'import', 'namespace', 'open', 'def', 'theorem' AND NOTHING ELSE: no command of the shelf's: FOR A HAND-IN. Each laying: the table of numbers ('.._ren') and one theorem, a field a fact of the dump's own or the kernel's comparison; each contract: ONE APPLICATION.
-/
import Derived.Shelf.Sort.Plain
import Derived.Shelf.Slices.In.SortNone
import Derived.Test.YtjhfpabldidlgaaGreatChecked
namespace Go.Proofs
open Go.Shelf
def Tryz.lays189_ren : Go.Shelf.Ren := ⟨fun | 189 => 97 | 125 => 152 | 257 => 151 | 128 => 200 | 129 => 201 | 294 => 191 | 295 => 192 | 296 => 193 | 297 => 194 | 298 => 195 | 299 => 196 | 216 => 197 | 300 => 198 | 301 => 199 | 328 => 222 | 329 => 223 | 330 => 224 | 331 => 225 | 332 => 226 | 215 => 186 | 343 => 238 | n => n, fun | 28 => 27 | 3 => 3 | 46 => 220 | 0 => 0 | 51 => 260 | 53 => 262 | 4 => 4 | 183 => 254 | 182 => 253 | 131 => 186 | 5 => 5 | 9 => 9 | 218 => 276 | 222 => 280 | 228 => 286 | 229 => 142 | n => n, fun | n => n⟩
theorem Tryz.lays189 : Go.Proofs.Lays.n189 Tryz.prog Tryz.lays189_ren := {
  mixed := by kernel_rfl
  f125 := Tryz.func152.trans (congrArg some (by kernel_rfl))
  f128 := Tryz.func200.trans (congrArg some (by kernel_rfl))
  f129 := Tryz.func201.trans (congrArg some (by kernel_rfl))
  f189 := Tryz.func97.trans (congrArg some (by kernel_rfl))
  f215 := Tryz.func186.trans (congrArg some (by kernel_rfl))
  f216 := Tryz.func197.trans (congrArg some (by kernel_rfl))
  f257 := Tryz.func151.trans (congrArg some (by kernel_rfl))
  f294 := Tryz.func191.trans (congrArg some (by kernel_rfl))
  f295 := Tryz.func192.trans (congrArg some (by kernel_rfl))
  f296 := Tryz.func193.trans (congrArg some (by kernel_rfl))
  f297 := Tryz.func194.trans (congrArg some (by kernel_rfl))
  f298 := Tryz.func195.trans (congrArg some (by kernel_rfl))
  f299 := Tryz.func196.trans (congrArg some (by kernel_rfl))
  f300 := Tryz.func198.trans (congrArg some (by kernel_rfl))
  f301 := Tryz.func199.trans (congrArg some (by kernel_rfl))
  f328 := Tryz.func222.trans (congrArg some (by kernel_rfl))
  f329 := Tryz.func223.trans (congrArg some (by kernel_rfl))
  f330 := Tryz.func224.trans (congrArg some (by kernel_rfl))
  f331 := Tryz.func225.trans (congrArg some (by kernel_rfl))
  f332 := Tryz.func226.trans (congrArg some (by kernel_rfl))
  f343 := Tryz.func238.trans (congrArg some (by kernel_rfl))
  t0 := Tryz.underlying0
  a0 := Tryz.isAgg0
  z0 := Tryz.sizeOf0
  v0 := Tryz.zeroValue0
  t3 := Tryz.underlying3
  a3 := Tryz.isAgg3
  z3 := Tryz.sizeOf3
  v3 := Tryz.zeroValue3
  t4 := Tryz.underlying4
  a4 := Tryz.isAgg4
  z4 := Tryz.sizeOf4
  v4 := Tryz.zeroValue4
  t5 := Tryz.underlying5
  a5 := Tryz.isAgg5
  z5 := Tryz.sizeOf5
  v5 := Tryz.zeroValue5
  t9 := Tryz.underlying9
  a9 := Tryz.isAgg9
  z9 := Tryz.sizeOf9
  v9 := Tryz.zeroValue9
  t28 := Tryz.underlying27
  a28 := Tryz.isAgg27
  z28 := Tryz.sizeOf27
  v28 := Tryz.zeroValue27
  t46 := Tryz.underlying220
  a46 := Tryz.isAgg220
  z46 := Tryz.sizeOf220
  v46 := Tryz.zeroValue220
  t51 := Tryz.underlying260
  a51 := Tryz.isAgg260
  z51 := Tryz.sizeOf260
  v51 := Tryz.zeroValue260
  t53 := Tryz.underlying262
  a53 := Tryz.isAgg262
  z53 := Tryz.sizeOf262
  v53 := Tryz.zeroValue262
  t131 := Tryz.underlying186
  a131 := Tryz.isAgg186
  z131 := Tryz.sizeOf186
  v131 := Tryz.zeroValue186
  t182 := Tryz.underlying253
  a182 := Tryz.isAgg253
  z182 := Tryz.sizeOf253
  v182 := Tryz.zeroValue253
  t183 := Tryz.underlying254
  a183 := Tryz.isAgg254
  z183 := Tryz.sizeOf254
  v183 := Tryz.zeroValue254
  t218 := Tryz.underlying276
  a218 := Tryz.isAgg276
  z218 := Tryz.sizeOf276
  v218 := Tryz.zeroValue276
  t222 := Tryz.underlying280
  a222 := Tryz.isAgg280
  z222 := Tryz.sizeOf280
  v222 := Tryz.zeroValue280
  t228 := Tryz.underlying286
  a228 := Tryz.isAgg286
  z228 := Tryz.sizeOf286
  v228 := Tryz.zeroValue286
  t229 := Tryz.underlying142
  a229 := Tryz.isAgg142
  z229 := Tryz.sizeOf142
  v229 := Tryz.zeroValue142 }
open Go.Sort Go.RowKit in
theorem Tryz.slices_Sort_int (blk off cap : Nat) (zs : List Int) (w : World) (hH : Holds (Value.int .i64) w blk off zs.toArray) (hblk : blk < w.heap.size) (hsz : zs.length < 4611686018427387904) :
    Calls Tryz.prog 97 #[.slice (some ⟨blk, off, none⟩) zs.length cap] w fun e w' =>
      e = .returned (.tuple #[]) ∧ ∃ n os, w' = grow (putRow (Value.int .i64) (Sort.ahead w n) blk off (zs.mergeSort fun x y => decide (x ≤ y)).toArray) os := Any.slices_Sort_int Tryz.lays189 blk off cap zs w hH hblk hsz
open Go.RowKit Go.Sort in
/-- .. and plain. (LAID: no walk: one application.) -/
theorem Tryz.slices_Sort_int_none (p : Option Addr) (cap : Nat) (w : World) :
    Calls Tryz.prog 97 #[.slice p 0 cap] w fun e w' => e = .returned (.tuple #[]) ∧ w' = w := Any.slices_Sort_int_none Tryz.lays189 p cap w
end Go.Proofs
