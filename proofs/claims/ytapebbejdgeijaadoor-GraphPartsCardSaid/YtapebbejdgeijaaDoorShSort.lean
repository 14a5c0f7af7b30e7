/- The shelf's contracts that this claim uses, at this dump, in plain words: cut out of what the kit's lay-plain.mjs wrote. -/
import Derived.Shelf.Sort.Plain
import Derived.Shelf.Slices.In.SortNone2
import Derived.Test.YtapebbejdgeijaaDoorProg
namespace Go.Proofs
open Go.Shelf Go.RowKit Go.Sort
def Tryd.lays191_ren : Go.Shelf.Ren := ⟨fun | 191 => 117 | 189 => 132 | 125 => 145 | 257 => 144 | 128 => 136 | 129 => 158 | 294 => 149 | 295 => 150 | 296 => 151 | 297 => 152 | 298 => 153 | 299 => 154 | 216 => 155 | 300 => 156 | 301 => 157 | 328 => 161 | 329 => 162 | 330 => 163 | 331 => 164 | 332 => 165 | 215 => 166 | 343 => 171 | n => n, fun | 28 => 22 | 0 => 0 | 3 => 3 | 46 => 132 | 51 => 194 | 53 => 88 | 4 => 4 | 183 => 228 | 182 => 227 | 131 => 89 | 5 => 5 | 9 => 9 | 218 => 235 | 222 => 239 | 228 => 249 | 229 => 250 | n => n, fun | n => n⟩
theorem Tryd.lays191 : Go.Proofs.Lays.n191 Tryd.prog Tryd.lays191_ren := {
  mixed := by kernel_rfl
  f125 := Tryd.func145.trans (congrArg some (by kernel_rfl))
  f128 := Tryd.func136.trans (congrArg some (by kernel_rfl))
  f129 := Tryd.func158.trans (congrArg some (by kernel_rfl))
  f189 := Tryd.func132.trans (congrArg some (by kernel_rfl))
  f191 := Tryd.func117.trans (congrArg some (by kernel_rfl))
  f215 := Tryd.func166.trans (congrArg some (by kernel_rfl))
  f216 := Tryd.func155.trans (congrArg some (by kernel_rfl))
  f257 := Tryd.func144.trans (congrArg some (by kernel_rfl))
  f294 := Tryd.func149.trans (congrArg some (by kernel_rfl))
  f295 := Tryd.func150.trans (congrArg some (by kernel_rfl))
  f296 := Tryd.func151.trans (congrArg some (by kernel_rfl))
  f297 := Tryd.func152.trans (congrArg some (by kernel_rfl))
  f298 := Tryd.func153.trans (congrArg some (by kernel_rfl))
  f299 := Tryd.func154.trans (congrArg some (by kernel_rfl))
  f300 := Tryd.func156.trans (congrArg some (by kernel_rfl))
  f301 := Tryd.func157.trans (congrArg some (by kernel_rfl))
  f328 := Tryd.func161.trans (congrArg some (by kernel_rfl))
  f329 := Tryd.func162.trans (congrArg some (by kernel_rfl))
  f330 := Tryd.func163.trans (congrArg some (by kernel_rfl))
  f331 := Tryd.func164.trans (congrArg some (by kernel_rfl))
  f332 := Tryd.func165.trans (congrArg some (by kernel_rfl))
  f343 := Tryd.func171.trans (congrArg some (by kernel_rfl))
  t0 := Tryd.underlying0
  a0 := Tryd.isAgg0
  z0 := Tryd.sizeOf0
  v0 := Tryd.zeroValue0
  t3 := Tryd.underlying3
  a3 := Tryd.isAgg3
  z3 := Tryd.sizeOf3
  v3 := Tryd.zeroValue3
  t4 := Tryd.underlying4
  a4 := Tryd.isAgg4
  z4 := Tryd.sizeOf4
  v4 := Tryd.zeroValue4
  t5 := Tryd.underlying5
  a5 := Tryd.isAgg5
  z5 := Tryd.sizeOf5
  v5 := Tryd.zeroValue5
  t9 := Tryd.underlying9
  a9 := Tryd.isAgg9
  z9 := Tryd.sizeOf9
  v9 := Tryd.zeroValue9
  t28 := Tryd.underlying22
  a28 := Tryd.isAgg22
  z28 := Tryd.sizeOf22
  v28 := Tryd.zeroValue22
  t46 := Tryd.underlying132
  a46 := Tryd.isAgg132
  z46 := Tryd.sizeOf132
  v46 := Tryd.zeroValue132
  t51 := Tryd.underlying194
  a51 := Tryd.isAgg194
  z51 := Tryd.sizeOf194
  v51 := Tryd.zeroValue194
  t53 := Tryd.underlying88
  a53 := Tryd.isAgg88
  z53 := Tryd.sizeOf88
  v53 := Tryd.zeroValue88
  t131 := Tryd.underlying89
  a131 := Tryd.isAgg89
  z131 := Tryd.sizeOf89
  v131 := Tryd.zeroValue89
  t182 := Tryd.underlying227
  a182 := Tryd.isAgg227
  z182 := Tryd.sizeOf227
  v182 := Tryd.zeroValue227
  t183 := Tryd.underlying228
  a183 := Tryd.isAgg228
  z183 := Tryd.sizeOf228
  v183 := Tryd.zeroValue228
  t218 := Tryd.underlying235
  a218 := Tryd.isAgg235
  z218 := Tryd.sizeOf235
  v218 := Tryd.zeroValue235
  t222 := Tryd.underlying239
  a222 := Tryd.isAgg239
  z222 := Tryd.sizeOf239
  v222 := Tryd.zeroValue239
  t228 := Tryd.underlying249
  a228 := Tryd.isAgg249
  z228 := Tryd.sizeOf249
  v228 := Tryd.zeroValue249
  t229 := Tryd.underlying250
  a229 := Tryd.isAgg250
  z229 := Tryd.sizeOf250
  v229 := Tryd.zeroValue250 }
theorem Tryd.sort_Ints (blk off cap : Nat) (zs : List Int) (w : World) (hH : Holds (Value.int .i64) w blk off zs.toArray) (hblk : blk < w.heap.size) (hsz : zs.length < 4611686018427387904) :
    Calls Tryd.prog 117 #[.slice (some ⟨blk, off, none⟩) zs.length cap] w fun e w' =>
      e = .returned (.tuple #[]) ∧ ∃ n os, w' = grow (putRow (Value.int .i64) (Sort.ahead w n) blk off (zs.mergeSort fun x y => decide (x ≤ y)).toArray) os := Any.sort_Ints Tryd.lays191 blk off cap zs w hH hblk hsz
theorem Tryd.sort_Ints_none (p : Option Addr) (cap : Nat) (w : World) :
    Calls Tryd.prog 117 #[.slice p 0 cap] w fun e w' => e = .returned (.tuple #[]) ∧ w' = w := Any.sort_Ints_none Tryd.lays191 p cap w
end Go.Proofs
