/-
  DERIVED: THE SHELF's CONTRACTS AT THIS DUMP, IN PLAIN WORDS (tools/lay-plain.mjs out of 'YtmhfpiincnadiaaShelf.lean', which tools/lay-shelf.mjs wrote): THE SAME DECLARATIONS UNDER THE SAME NAMES: 'import', 'namespace', 'open', 'def', 'theorem' AND NOTHING ELSE: no command of the shelf's: FOR A HAND-IN. Each laying: the table of numbers ('.._ren') and one theorem, a field a fact of the dump's own or the kernel's comparison; each contract: ONE APPLICATION.
-/
import Derived.Shelf.SlGeneric
import Derived.Shelf.Lays2
import Derived.Ground.Names2Prog
import Derived.Shelf.Slices.Clone
import Derived.Shelf.Slices.SearchI
import Derived.Shelf.Slices.Empties
import Derived.Shelf.Spec.SlicesInsert
import Derived.Shelf.Spec.SlicesInsertGrow
import Derived.Ground.SlgnProg
import Derived.Ground.SlgfProg
import Derived.Shelf.SlicesE.DeleteFunc
import Derived.Shelf.SlicesE.Index
import Derived.Test.YtmhfpiincnadiaaProg
namespace Go.Proofs
open Go.Shelf
def Try.layClone_ren : Go.Shelf.Ren := ⟨fun | 15 => 45 | n => n, fun | 22 => 50 | 3 => 3 | 4 => 4 | n => n, fun | n => n⟩
theorem Try.layClone : Go.Proofs.Lays2.n15 Try.prog Try.layClone_ren := {
  mixed := by kernel_rfl
  f15 := Try.func45.trans (congrArg some (by kernel_rfl))
  t3 := Try.underlying3
  a3 := Try.isAgg3
  z3 := Try.sizeOf3
  v3 := Try.zeroValue3
  t4 := Try.underlying4
  a4 := Try.isAgg4
  z4 := Try.sizeOf4
  v4 := Try.zeroValue4
  t22 := Try.underlying50
  a22 := Try.isAgg50
  z22 := Try.sizeOf50
  v22 := Try.zeroValue50
  i3 := by kernel_rfl }
def Try.laySearch_ren : Go.Shelf.Ren := ⟨fun | 25 => 64 | 31 => 94 | 32 => 95 | 37 => 132 | n => n, fun | 22 => 50 | 3 => 3 | 4 => 4 | 40 => 144 | 0 => 0 | n => n, fun | n => n⟩
theorem Try.laySearch : Go.Proofs.Lays2.n25 Try.prog Try.laySearch_ren := {
  mixed := by kernel_rfl
  f25 := Try.func64.trans (congrArg some (by kernel_rfl))
  f31 := Try.func94.trans (congrArg some (by kernel_rfl))
  f32 := Try.func95.trans (congrArg some (by kernel_rfl))
  f37 := Try.func132.trans (congrArg some (by kernel_rfl))
  t0 := Try.underlying0
  a0 := Try.isAgg0
  z0 := Try.sizeOf0
  v0 := Try.zeroValue0
  t3 := Try.underlying3
  a3 := Try.isAgg3
  z3 := Try.sizeOf3
  v3 := Try.zeroValue3
  t4 := Try.underlying4
  a4 := Try.isAgg4
  z4 := Try.sizeOf4
  v4 := Try.zeroValue4
  t22 := Try.underlying50
  a22 := Try.isAgg50
  z22 := Try.sizeOf50
  v22 := Try.zeroValue50
  t40 := Try.underlying144
  a40 := Try.isAgg144
  z40 := Try.sizeOf144
  v40 := Try.zeroValue144 }
def Try.layInsert_ren : Go.Shelf.Ren := ⟨fun | 21 => 65 | 27 => 96 | 28 => 97 | 35 => 133 | 39 => 149 | n => n, fun | 22 => 50 | 3 => 3 | 4 => 4 | 0 => 0 | n => n, fun | n => n⟩
theorem Try.layInsert : Go.Proofs.Lays2.n21 Try.prog Try.layInsert_ren := {
  mixed := by kernel_rfl
  f21 := Try.func65.trans (congrArg some (by kernel_rfl))
  f27 := Try.func96.trans (congrArg some (by kernel_rfl))
  f28 := Try.func97.trans (congrArg some (by kernel_rfl))
  f35 := Try.func133.trans (congrArg some (by kernel_rfl))
  f39 := Try.func149.trans (congrArg some (by kernel_rfl))
  t0 := Try.underlying0
  a0 := Try.isAgg0
  z0 := Try.sizeOf0
  v0 := Try.zeroValue0
  t3 := Try.underlying3
  a3 := Try.isAgg3
  z3 := Try.sizeOf3
  v3 := Try.zeroValue3
  t4 := Try.underlying4
  a4 := Try.isAgg4
  z4 := Try.sizeOf4
  v4 := Try.zeroValue4
  t22 := Try.underlying50
  a22 := Try.isAgg50
  z22 := Try.sizeOf50
  v22 := Try.zeroValue50
  i3 := by kernel_rfl }
def Try.layDelete_ren : Go.Shelf.Ren := ⟨fun | 10 => 66 | 6 => 98 | n => n, fun | 22 => 50 | 23 => 3 | 25 => 153 | 3 => 3 | 4 => 4 | 0 => 0 | n => n, fun | n => n⟩
theorem Try.layDelete : Go.Proofs.SlLaysH.n10 Try.prog Try.layDelete_ren := {
  mixed := by kernel_rfl
  f6 := ⟨Try.f98.name, by decide, Try.func98.trans (congrArg some (by kernel_rfl))⟩
  f10 := ⟨Try.f66.name, by decide, Try.func66.trans (congrArg some (by kernel_rfl))⟩
  t0 := Try.underlying0
  a0 := Try.isAgg0
  z0 := Try.sizeOf0
  v0 := Try.zeroValue0
  t3 := Try.underlying3
  a3 := Try.isAgg3
  z3 := Try.sizeOf3
  v3 := Try.zeroValue3
  t4 := Try.underlying4
  a4 := Try.isAgg4
  z4 := Try.sizeOf4
  v4 := Try.zeroValue4
  t22 := Try.underlying50
  a22 := Try.isAgg50
  z22 := Try.sizeOf50
  v22 := Try.zeroValue50
  a23 := Try.isAgg3
  z23 := Try.sizeOf3
  t25 := Try.underlying153
  a25 := Try.isAgg153
  z25 := Try.sizeOf153
  v25 := Try.zeroValue153 }
def Try.layContains_ren : Go.Shelf.Ren := ⟨fun | 31 => 57 | 29 => 81 | n => n, fun | 22 => 50 | 23 => 3 | 4 => 4 | 3 => 3 | 0 => 0 | n => n, fun | n => n⟩
theorem Try.layContains : Go.Proofs.SlLaysE.n31 Try.prog Try.layContains_ren := {
  mixed := by kernel_rfl
  f29 := ⟨Try.f81.name, by decide, Try.func81.trans (congrArg some (by kernel_rfl))⟩
  f31 := ⟨Try.f57.name, by decide, Try.func57.trans (congrArg some (by kernel_rfl))⟩
  t0 := Try.underlying0
  a0 := Try.isAgg0
  z0 := Try.sizeOf0
  v0 := Try.zeroValue0
  t3 := Try.underlying3
  a3 := Try.isAgg3
  z3 := Try.sizeOf3
  v3 := Try.zeroValue3
  t4 := Try.underlying4
  a4 := Try.isAgg4
  z4 := Try.sizeOf4
  v4 := Try.zeroValue4
  t22 := Try.underlying50
  a22 := Try.isAgg50
  z22 := Try.sizeOf50
  v22 := Try.zeroValue50
  a23 := Try.isAgg3
  z23 := Try.sizeOf3 }
end Go.Proofs
