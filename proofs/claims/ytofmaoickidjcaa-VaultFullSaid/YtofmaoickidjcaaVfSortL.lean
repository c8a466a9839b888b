/- A part of the proof: SortL (for the law Vf). -/
import Derived.Shelf.Sort.Plain
import Derived.Shelf.Slices.In.SortNone
import Derived.Test.YtofmaoickidjcaaProg
set_option linter.all false
namespace Go.Proofs
open Go.Shelf
def Try.lays190_ren : Go.Shelf.Ren := ⟨fun | 190 => 80 | 125 => 108 | 258 => 107 | 128 => 134 | 129 => 135 | 302 => 125 | 303 => 126 | 304 => 127 | 305 => 128 | 306 => 129 | 307 => 130 | 308 => 131 | 309 => 132 | 310 => 133 | 333 => 150 | 329 => 151 | 330 => 152 | 334 => 153 | 335 => 154 | 336 => 155 | 344 => 163 | n => n, fun | 31 => 76 | 9 => 9 | 3 => 3 | 46 => 140 | 0 => 0 | 51 => 180 | 53 => 24 | 4 => 4 | 183 => 173 | 182 => 172 | 131 => 120 | 5 => 5 | 218 => 192 | 222 => 196 | 228 => 203 | 229 => 204 | n => n, fun | n => n⟩
theorem Try.lays190 : Go.Proofs.Lays.n190 Try.prog Try.lays190_ren := {
  mixed := by kernel_rfl
  f125 := Try.func108.trans (congrArg some (by kernel_rfl))
  f128 := Try.func134.trans (congrArg some (by kernel_rfl))
  f129 := Try.func135.trans (congrArg some (by kernel_rfl))
  f190 := Try.func80.trans (congrArg some (by kernel_rfl))
  f258 := Try.func107.trans (congrArg some (by kernel_rfl))
  f302 := Try.func125.trans (congrArg some (by kernel_rfl))
  f303 := Try.func126.trans (congrArg some (by kernel_rfl))
  f304 := Try.func127.trans (congrArg some (by kernel_rfl))
  f305 := Try.func128.trans (congrArg some (by kernel_rfl))
  f306 := Try.func129.trans (congrArg some (by kernel_rfl))
  f307 := Try.func130.trans (congrArg some (by kernel_rfl))
  f308 := Try.func131.trans (congrArg some (by kernel_rfl))
  f309 := Try.func132.trans (congrArg some (by kernel_rfl))
  f310 := Try.func133.trans (congrArg some (by kernel_rfl))
  f329 := Try.func151.trans (congrArg some (by kernel_rfl))
  f330 := Try.func152.trans (congrArg some (by kernel_rfl))
  f333 := Try.func150.trans (congrArg some (by kernel_rfl))
  f334 := Try.func153.trans (congrArg some (by kernel_rfl))
  f335 := Try.func154.trans (congrArg some (by kernel_rfl))
  f336 := Try.func155.trans (congrArg some (by kernel_rfl))
  f344 := Try.func163.trans (congrArg some (by kernel_rfl))
  t0 := Try.underlying0
  a0 := Try.isAgg0
  z0 := Try.sizeOf0
  v0 := Try.zeroValue0
  t3 := Try.underlying3
  a3 := Try.isAgg3
  z3 := Try.sizeOf3
  v3 := Try.zeroValue3
  t4 := Try.underlying4
  a4 := Try.isAgg4
  z4 := Try.sizeOf4
  v4 := Try.zeroValue4
  t5 := Try.underlying5
  a5 := Try.isAgg5
  z5 := Try.sizeOf5
  v5 := Try.zeroValue5
  t9 := Try.underlying9
  a9 := Try.isAgg9
  z9 := Try.sizeOf9
  v9 := Try.zeroValue9
  t31 := Try.underlying76
  a31 := Try.isAgg76
  z31 := Try.sizeOf76
  v31 := Try.zeroValue76
  t46 := Try.underlying140
  a46 := Try.isAgg140
  z46 := Try.sizeOf140
  v46 := Try.zeroValue140
  t51 := Try.underlying180
  a51 := Try.isAgg180
  z51 := Try.sizeOf180
  v51 := Try.zeroValue180
  t53 := Try.underlying24
  a53 := Try.isAgg24
  z53 := Try.sizeOf24
  v53 := Try.zeroValue24
  t131 := Try.underlying120
  a131 := Try.isAgg120
  z131 := Try.sizeOf120
  v131 := Try.zeroValue120
  t182 := Try.underlying172
  a182 := Try.isAgg172
  z182 := Try.sizeOf172
  v182 := Try.zeroValue172
  t183 := Try.underlying173
  a183 := Try.isAgg173
  z183 := Try.sizeOf173
  v183 := Try.zeroValue173
  t218 := Try.underlying192
  a218 := Try.isAgg192
  z218 := Try.sizeOf192
  v218 := Try.zeroValue192
  t222 := Try.underlying196
  a222 := Try.isAgg196
  z222 := Try.sizeOf196
  v222 := Try.zeroValue196
  t228 := Try.underlying203
  a228 := Try.isAgg203
  z228 := Try.sizeOf203
  v228 := Try.zeroValue203
  t229 := Try.underlying204
  a229 := Try.isAgg204
  z229 := Try.sizeOf204
  v229 := Try.zeroValue204 }
open Go.Sort Go.RowKit in
theorem Try.slices_Sort_string (blk off cap : Nat) (ss : List (List UInt8)) (w : World) (hH : Holds encStr w blk off ss.toArray) (hblk : blk < w.heap.size) (hsz : ss.length < 4611686018427387904) :
    Calls Try.prog 80 #[.slice (some ⟨blk, off, none⟩) ss.length cap] w fun e w' =>
      e = .returned (.tuple #[]) ∧ ∃ n os, w' = grow (putRow encStr (Sort.ahead w n) blk off (ss.mergeSort fun x y => decide (x ≤ y)).toArray) os := Any.slices_Sort_string Try.lays190 blk off cap ss w hH hblk hsz
open Go.RowKit Go.Sort in
/-- .. and plain. (LAID: no walk: one application.) -/
theorem Try.slices_Sort_string_none (p : Option Addr) (cap : Nat) (w : World) :
    Calls Try.prog 80 #[.slice p 0 cap] w fun e w' => e = .returned (.tuple #[]) ∧ w' = w := Any.slices_Sort_string_none Try.lays190 p cap w
end Go.Proofs
