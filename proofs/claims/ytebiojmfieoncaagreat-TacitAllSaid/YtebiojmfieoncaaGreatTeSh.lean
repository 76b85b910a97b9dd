/-
  DERIVED: THE SHELF's CONTRACTS AT THIS DUMP, IN PLAIN WORDS (tools/lay-plain.mjs out of 'TryzSort.lean', which tools/lay-shelf.mjs wrote): THE SAME DECLARATIONS UNDER THE SAME NAMES: 'import', 'namespace', 'open', 'def', 'theorem' AND NOTHING ELSE: no command of the shelf's: FOR A HAND-IN. Each laying: the table of numbers ('.._ren') and one theorem, a field a fact of the dump's own or the kernel's comparison; each contract: ONE APPLICATION.
-/
import Derived.Shelf.Sort.Plain
import Derived.Shelf.Slices.In.SortNone
import Derived.Test.YtebiojmfieoncaaGreatProg
namespace Go.Proofs
open Go.Shelf
def Tryz.lays190_ren : Go.Shelf.Ren := ⟨fun | 190 => 94 | 125 => 132 | 258 => 131 | 128 => 162 | 129 => 163 | 302 => 153 | 303 => 154 | 304 => 155 | 305 => 156 | 306 => 157 | 307 => 158 | 308 => 159 | 309 => 160 | 310 => 161 | 333 => 178 | 329 => 179 | 330 => 180 | 334 => 181 | 335 => 182 | 336 => 183 | 344 => 200 | n => n, fun | 31 => 69 | 9 => 9 | 3 => 3 | 46 => 141 | 0 => 0 | 51 => 168 | 53 => 170 | 4 => 4 | 183 => 161 | 182 => 160 | 131 => 123 | 5 => 5 | 218 => 176 | 222 => 85 | 228 => 188 | 229 => 56 | n => n, fun | n => n⟩
theorem Tryz.lays190 : Go.Proofs.Lays.n190 Tryz.prog Tryz.lays190_ren := {
  mixed := by kernel_rfl
  f125 := Tryz.func132.trans (congrArg some (by kernel_rfl))
  f128 := Tryz.func162.trans (congrArg some (by kernel_rfl))
  f129 := Tryz.func163.trans (congrArg some (by kernel_rfl))
  f190 := Tryz.func94.trans (congrArg some (by kernel_rfl))
  f258 := Tryz.func131.trans (congrArg some (by kernel_rfl))
  f302 := Tryz.func153.trans (congrArg some (by kernel_rfl))
  f303 := Tryz.func154.trans (congrArg some (by kernel_rfl))
  f304 := Tryz.func155.trans (congrArg some (by kernel_rfl))
  f305 := Tryz.func156.trans (congrArg some (by kernel_rfl))
  f306 := Tryz.func157.trans (congrArg some (by kernel_rfl))
  f307 := Tryz.func158.trans (congrArg some (by kernel_rfl))
  f308 := Tryz.func159.trans (congrArg some (by kernel_rfl))
  f309 := Tryz.func160.trans (congrArg some (by kernel_rfl))
  f310 := Tryz.func161.trans (congrArg some (by kernel_rfl))
  f329 := Tryz.func179.trans (congrArg some (by kernel_rfl))
  f330 := Tryz.func180.trans (congrArg some (by kernel_rfl))
  f333 := Tryz.func178.trans (congrArg some (by kernel_rfl))
  f334 := Tryz.func181.trans (congrArg some (by kernel_rfl))
  f335 := Tryz.func182.trans (congrArg some (by kernel_rfl))
  f336 := Tryz.func183.trans (congrArg some (by kernel_rfl))
  f344 := Tryz.func200.trans (congrArg some (by kernel_rfl))
  t0 := Tryz.underlying0
  a0 := Tryz.isAgg0
  z0 := Tryz.sizeOf0
  v0 := Tryz.zeroValue0
  t3 := Tryz.underlying3
  a3 := Tryz.isAgg3
  z3 := Tryz.sizeOf3
  v3 := Tryz.zeroValue3
  t4 := Tryz.underlying4
  a4 := Tryz.isAgg4
  z4 := Tryz.sizeOf4
  v4 := Tryz.zeroValue4
  t5 := Tryz.underlying5
  a5 := Tryz.isAgg5
  z5 := Tryz.sizeOf5
  v5 := Tryz.zeroValue5
  t9 := Tryz.underlying9
  a9 := Tryz.isAgg9
  z9 := Tryz.sizeOf9
  v9 := Tryz.zeroValue9
  t31 := Tryz.underlying69
  a31 := Tryz.isAgg69
  z31 := Tryz.sizeOf69
  v31 := Tryz.zeroValue69
  t46 := Tryz.underlying141
  a46 := Tryz.isAgg141
  z46 := Tryz.sizeOf141
  v46 := Tryz.zeroValue141
  t51 := Tryz.underlying168
  a51 := Tryz.isAgg168
  z51 := Tryz.sizeOf168
  v51 := Tryz.zeroValue168
  t53 := Tryz.underlying170
  a53 := Tryz.isAgg170
  z53 := Tryz.sizeOf170
  v53 := Tryz.zeroValue170
  t131 := Tryz.underlying123
  a131 := Tryz.isAgg123
  z131 := Tryz.sizeOf123
  v131 := Tryz.zeroValue123
  t182 := Tryz.underlying160
  a182 := Tryz.isAgg160
  z182 := Tryz.sizeOf160
  v182 := Tryz.zeroValue160
  t183 := Tryz.underlying161
  a183 := Tryz.isAgg161
  z183 := Tryz.sizeOf161
  v183 := Tryz.zeroValue161
  t218 := Tryz.underlying176
  a218 := Tryz.isAgg176
  z218 := Tryz.sizeOf176
  v218 := Tryz.zeroValue176
  t222 := Tryz.underlying85
  a222 := Tryz.isAgg85
  z222 := Tryz.sizeOf85
  v222 := Tryz.zeroValue85
  t228 := Tryz.underlying188
  a228 := Tryz.isAgg188
  z228 := Tryz.sizeOf188
  v228 := Tryz.zeroValue188
  t229 := Tryz.underlying56
  a229 := Tryz.isAgg56
  z229 := Tryz.sizeOf56
  v229 := Tryz.zeroValue56 }
open Go.Sort Go.RowKit in
theorem Tryz.slices_Sort_string (blk off cap : Nat) (ss : List (List UInt8)) (w : World) (hH : Holds encStr w blk off ss.toArray) (hblk : blk < w.heap.size) (hsz : ss.length < 4611686018427387904) :
    Calls Tryz.prog 94 #[.slice (some ⟨blk, off, none⟩) ss.length cap] w fun e w' =>
      e = .returned (.tuple #[]) ∧ ∃ n os, w' = grow (putRow encStr (Sort.ahead w n) blk off (ss.mergeSort fun x y => decide (x ≤ y)).toArray) os := Any.slices_Sort_string Tryz.lays190 blk off cap ss w hH hblk hsz
open Go.RowKit Go.Sort in
/-- .. and plain. (LAID: no walk: one application.) -/
theorem Tryz.slices_Sort_string_none (p : Option Addr) (cap : Nat) (w : World) :
    Calls Tryz.prog 94 #[.slice p 0 cap] w fun e w' => e = .returned (.tuple #[]) ∧ w' = w := Any.slices_Sort_string_none Tryz.lays190 p cap w
end Go.Proofs
