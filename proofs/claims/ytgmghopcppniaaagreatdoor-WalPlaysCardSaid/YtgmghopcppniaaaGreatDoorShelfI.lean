/-
 DERIVED: THE SHELF's CONTRACTS AT THIS DUMP, IN PLAIN WORDS (tools/lay-plain.mjs out of 'TryzShelfI.lean', which tools/lay-shelf.mjs wrote): THE SAME DECLARATIONS UNDER THE SAME NAMES: 'import', 'namespace', 'open', 'def', 'theorem' AND NOTHING ELSE: no command of the shelf's: FOR A HAND-IN. Each laying: the table of numbers ('.._ren') and one theorem, a field a fact of the dump's own or the kernel's comparison; each contract: ONE APPLICATION.
-/
import Derived.Shelf.Sort.Plain
import Derived.Shelf.Slices.In.SortNone
import Derived.Test.YtgmghopcppniaaaGreatDoorProg
namespace Go.Proofs
open Go.Shelf
def Tryz.lays189_ren : Go.Shelf.Ren := ⟨fun | 189 => 83 | 125 => 134 | 257 => 133 | 128 => 179 | 129 => 180 | 294 => 170 | 295 => 171 | 296 => 172 | 297 => 173 | 298 => 174 | 299 => 175 | 216 => 176 | 300 => 177 | 301 => 178 | 328 => 205 | 329 => 206 | 330 => 207 | 331 => 208 | 332 => 209 | 215 => 210 | 343 => 231 | n => n, fun | 28 => 22 | 3 => 3 | 46 => 179 | 0 => 0 | 51 => 168 | 53 => 190 | 4 => 4 | 183 => 209 | 182 => 208 | 131 => 133 | 5 => 5 | 9 => 9 | 218 => 242 | 222 => 246 | 228 => 265 | 229 => 266 | n => n, fun | n => n⟩
theorem Tryz.lays189 : Go.Proofs.Lays.n189 Tryz.prog Tryz.lays189_ren := {
 mixed := by kernel_rfl
 f125 := Tryz.func134.trans (congrArg some (by kernel_rfl))
 f128 := Tryz.func179.trans (congrArg some (by kernel_rfl))
 f129 := Tryz.func180.trans (congrArg some (by kernel_rfl))
 f189 := Tryz.func83.trans (congrArg some (by kernel_rfl))
 f215 := Tryz.func210.trans (congrArg some (by kernel_rfl))
 f216 := Tryz.func176.trans (congrArg some (by kernel_rfl))
 f257 := Tryz.func133.trans (congrArg some (by kernel_rfl))
 f294 := Tryz.func170.trans (congrArg some (by kernel_rfl))
 f295 := Tryz.func171.trans (congrArg some (by kernel_rfl))
 f296 := Tryz.func172.trans (congrArg some (by kernel_rfl))
 f297 := Tryz.func173.trans (congrArg some (by kernel_rfl))
 f298 := Tryz.func174.trans (congrArg some (by kernel_rfl))
 f299 := Tryz.func175.trans (congrArg some (by kernel_rfl))
 f300 := Tryz.func177.trans (congrArg some (by kernel_rfl))
 f301 := Tryz.func178.trans (congrArg some (by kernel_rfl))
 f328 := Tryz.func205.trans (congrArg some (by kernel_rfl))
 f329 := Tryz.func206.trans (congrArg some (by kernel_rfl))
 f330 := Tryz.func207.trans (congrArg some (by kernel_rfl))
 f331 := Tryz.func208.trans (congrArg some (by kernel_rfl))
 f332 := Tryz.func209.trans (congrArg some (by kernel_rfl))
 f343 := Tryz.func231.trans (congrArg some (by kernel_rfl))
 t0 := Tryz.underlying0
 a0 := Tryz.isAgg0
 z0 := Tryz.sizeOf0
 v0 := Tryz.zeroValue0
 t3 := Tryz.underlying3
 a3 := Tryz.isAgg3
 z3 := Tryz.sizeOf3
 v3 := Tryz.zeroValue3
 t4 := Tryz.underlying4
 a4 := Tryz.isAgg4
 z4 := Tryz.sizeOf4
 v4 := Tryz.zeroValue4
 t5 := Tryz.underlying5
 a5 := Tryz.isAgg5
 z5 := Tryz.sizeOf5
 v5 := Tryz.zeroValue5
 t9 := Tryz.underlying9
 a9 := Tryz.isAgg9
 z9 := Tryz.sizeOf9
 v9 := Tryz.zeroValue9
 t28 := Tryz.underlying22
 a28 := Tryz.isAgg22
 z28 := Tryz.sizeOf22
 v28 := Tryz.zeroValue22
 t46 := Tryz.underlying179
 a46 := Tryz.isAgg179
 z46 := Tryz.sizeOf179
 v46 := Tryz.zeroValue179
 t51 := Tryz.underlying168
 a51 := Tryz.isAgg168
 z51 := Tryz.sizeOf168
 v51 := Tryz.zeroValue168
 t53 := Tryz.underlying190
 a53 := Tryz.isAgg190
 z53 := Tryz.sizeOf190
 v53 := Tryz.zeroValue190
 t131 := Tryz.underlying133
 a131 := Tryz.isAgg133
 z131 := Tryz.sizeOf133
 v131 := Tryz.zeroValue133
 t182 := Tryz.underlying208
 a182 := Tryz.isAgg208
 z182 := Tryz.sizeOf208
 v182 := Tryz.zeroValue208
 t183 := Tryz.underlying209
 a183 := Tryz.isAgg209
 z183 := Tryz.sizeOf209
 v183 := Tryz.zeroValue209
 t218 := Tryz.underlying242
 a218 := Tryz.isAgg242
 z218 := Tryz.sizeOf242
 v218 := Tryz.zeroValue242
 t222 := Tryz.underlying246
 a222 := Tryz.isAgg246
 z222 := Tryz.sizeOf246
 v222 := Tryz.zeroValue246
 t228 := Tryz.underlying265
 a228 := Tryz.isAgg265
 z228 := Tryz.sizeOf265
 v228 := Tryz.zeroValue265
 t229 := Tryz.underlying266
 a229 := Tryz.isAgg266
 z229 := Tryz.sizeOf266
 v229 := Tryz.zeroValue266 }
open Go.Sort Go.RowKit in
theorem Tryz.slices_Sort_int (blk off cap : Nat) (zs : List Int) (w : World) (hH : Holds (Value.int .i64) w blk off zs.toArray) (hblk : blk < w.heap.size) (hsz : zs.length < 4611686018427387904) :
  Calls Tryz.prog 83 #[.slice (some ⟨blk, off, none⟩) zs.length cap] w fun e w' =>
   e = .returned (.tuple #[]) ∧ ∃ n os, w' = grow (putRow (Value.int .i64) (Sort.ahead w n) blk off (zs.mergeSort fun x y => decide (x ≤ y)).toArray) os := Any.slices_Sort_int Tryz.lays189 blk off cap zs w hH hblk hsz
open Go.Sort Go.RowKit in
theorem Tryz.slices_Sort_int_none (p : Option Addr) (cap : Nat) (w : World) :
  Calls Tryz.prog 83 #[.slice p 0 cap] w fun e w' => e = .returned (.tuple #[]) ∧ w' = w := Any.slices_Sort_int_none Tryz.lays189 p cap w
end Go.Proofs
