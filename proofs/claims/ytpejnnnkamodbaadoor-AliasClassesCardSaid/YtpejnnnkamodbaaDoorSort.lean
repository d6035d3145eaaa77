/-
  DERIVED: THE SHELF's CONTRACTS AT THIS DUMP, IN PLAIN WORDS (tools/lay-plain.mjs out of 'TrydSort.lean', which tools/lay-shelf.mjs wrote): THE SAME DECLARATIONS UNDER THE SAME NAMES: 'import', 'namespace', 'open', 'def', 'theorem' AND NOTHING ELSE: no command of the shelf's: FOR A HAND-IN. Each laying: the table of numbers ('.._ren') and one theorem, a field a fact of the dump's own or the kernel's comparison; each contract: ONE APPLICATION.
-/
import Derived.Shelf.Sort.Plain
import Derived.Test.YtpejnnnkamodbaaDoorProg
namespace Go.Proofs
open Go.Shelf
def Tryd.lays190_ren : Go.Shelf.Ren := ⟨fun | 190 => 68 | 125 => 84 | 258 => 83 | 128 => 103 | 129 => 104 | 302 => 94 | 303 => 95 | 304 => 96 | 305 => 97 | 306 => 98 | 307 => 99 | 308 => 100 | 309 => 101 | 310 => 102 | 333 => 111 | 329 => 112 | 330 => 113 | 334 => 114 | 335 => 115 | 336 => 116 | 344 => 119 | n => n, fun | 31 => 27 | 9 => 9 | 3 => 3 | 46 => 118 | 0 => 0 | 51 => 127 | 53 => 142 | 4 => 4 | 183 => 135 | 182 => 134 | 131 => 94 | 5 => 5 | 218 => 158 | 222 => 162 | 228 => 167 | 229 => 168 | n => n, fun | n => n⟩
theorem Tryd.lays190 : Go.Proofs.Lays.n190 Tryd.prog Tryd.lays190_ren := {
  mixed := by kernel_rfl
  f125 := Tryd.func84.trans (congrArg some (by kernel_rfl))
  f128 := Tryd.func103.trans (congrArg some (by kernel_rfl))
  f129 := Tryd.func104.trans (congrArg some (by kernel_rfl))
  f190 := Tryd.func68.trans (congrArg some (by kernel_rfl))
  f258 := Tryd.func83.trans (congrArg some (by kernel_rfl))
  f302 := Tryd.func94.trans (congrArg some (by kernel_rfl))
  f303 := Tryd.func95.trans (congrArg some (by kernel_rfl))
  f304 := Tryd.func96.trans (congrArg some (by kernel_rfl))
  f305 := Tryd.func97.trans (congrArg some (by kernel_rfl))
  f306 := Tryd.func98.trans (congrArg some (by kernel_rfl))
  f307 := Tryd.func99.trans (congrArg some (by kernel_rfl))
  f308 := Tryd.func100.trans (congrArg some (by kernel_rfl))
  f309 := Tryd.func101.trans (congrArg some (by kernel_rfl))
  f310 := Tryd.func102.trans (congrArg some (by kernel_rfl))
  f329 := Tryd.func112.trans (congrArg some (by kernel_rfl))
  f330 := Tryd.func113.trans (congrArg some (by kernel_rfl))
  f333 := Tryd.func111.trans (congrArg some (by kernel_rfl))
  f334 := Tryd.func114.trans (congrArg some (by kernel_rfl))
  f335 := Tryd.func115.trans (congrArg some (by kernel_rfl))
  f336 := Tryd.func116.trans (congrArg some (by kernel_rfl))
  f344 := Tryd.func119.trans (congrArg some (by kernel_rfl))
  t0 := Tryd.underlying0
  a0 := Tryd.isAgg0
  z0 := Tryd.sizeOf0
  v0 := Tryd.zeroValue0
  t3 := Tryd.underlying3
  a3 := Tryd.isAgg3
  z3 := Tryd.sizeOf3
  v3 := Tryd.zeroValue3
  t4 := Tryd.underlying4
  a4 := Tryd.isAgg4
  z4 := Tryd.sizeOf4
  v4 := Tryd.zeroValue4
  t5 := Tryd.underlying5
  a5 := Tryd.isAgg5
  z5 := Tryd.sizeOf5
  v5 := Tryd.zeroValue5
  t9 := Tryd.underlying9
  a9 := Tryd.isAgg9
  z9 := Tryd.sizeOf9
  v9 := Tryd.zeroValue9
  t31 := Tryd.underlying27
  a31 := Tryd.isAgg27
  z31 := Tryd.sizeOf27
  v31 := Tryd.zeroValue27
  t46 := Tryd.underlying118
  a46 := Tryd.isAgg118
  z46 := Tryd.sizeOf118
  v46 := Tryd.zeroValue118
  t51 := Tryd.underlying127
  a51 := Tryd.isAgg127
  z51 := Tryd.sizeOf127
  v51 := Tryd.zeroValue127
  t53 := Tryd.underlying142
  a53 := Tryd.isAgg142
  z53 := Tryd.sizeOf142
  v53 := Tryd.zeroValue142
  t131 := Tryd.underlying94
  a131 := Tryd.isAgg94
  z131 := Tryd.sizeOf94
  v131 := Tryd.zeroValue94
  t182 := Tryd.underlying134
  a182 := Tryd.isAgg134
  z182 := Tryd.sizeOf134
  v182 := Tryd.zeroValue134
  t183 := Tryd.underlying135
  a183 := Tryd.isAgg135
  z183 := Tryd.sizeOf135
  v183 := Tryd.zeroValue135
  t218 := Tryd.underlying158
  a218 := Tryd.isAgg158
  z218 := Tryd.sizeOf158
  v218 := Tryd.zeroValue158
  t222 := Tryd.underlying162
  a222 := Tryd.isAgg162
  z222 := Tryd.sizeOf162
  v222 := Tryd.zeroValue162
  t228 := Tryd.underlying167
  a228 := Tryd.isAgg167
  z228 := Tryd.sizeOf167
  v228 := Tryd.zeroValue167
  t229 := Tryd.underlying168
  a229 := Tryd.isAgg168
  z229 := Tryd.sizeOf168
  v229 := Tryd.zeroValue168 }
open Go.RowKit Go.Sort in
theorem Tryd.slices_Sort_string (blk off cap : Nat) (ss : List (List UInt8)) (w : World) (hH : Holds encStr w blk off ss.toArray) (hblk : blk < w.heap.size) (hsz : ss.length < 4611686018427387904) :
    Calls Tryd.prog 68 #[.slice (some ⟨blk, off, none⟩) ss.length cap] w fun e w' => e = .returned (.tuple #[]) ∧ ∃ n os, w' = grow (putRow encStr (Sort.ahead w n) blk off (ss.mergeSort fun x y => decide (x ≤ y)).toArray) os := Any.slices_Sort_string Tryd.lays190 blk off cap ss w hH hblk hsz
end Go.Proofs
