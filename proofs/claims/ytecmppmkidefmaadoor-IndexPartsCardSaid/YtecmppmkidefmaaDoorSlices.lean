/-
  The library's functions on slices that are called here: their contracts out of the kit's shelf (proved once over any program), laid at this program's numbers. WRITTEN BY A PROGRAM of this work (gen_slices.py).
-/
import Derived.Test.YtecmppmkidefmaaDoorProg
import Derived.Shelf.Spec.SearchS
import Derived.Shelf.Spec.SlicesInsertGrow
import Derived.Shelf.SlicesE.Delete
import Derived.Shelf.SlicesE.Clone
namespace Go.Proofs.YtecmppmkidefmaaDoor
open Go.Shelf Go.RowKit Go.Proofs

def slrenS : Go.Shelf.Ren := ⟨fun | 26 => 37 | 33 => 53 | 34 => 54 | 38 => 73 | 22 => 40 | 29 => 55 | 30 => 56 | 36 => 74 | 17 => 84 | n => n, fun | 0 => 0 | 3 => 3 | 4 => 4 | 9 => 9 | 24 => 68 | 40 => 75 | n => n, fun n => n⟩
def slrenD : Go.Shelf.Ren := ⟨fun | 45 => 38 | 41 => 41 | n => n, fun | 0 => 0 | 3 => 3 | 4 => 4 | 22 => 68 | 23 => 9 | n => n, fun n => n⟩
def slrenP : Go.Shelf.Ren := ⟨fun | 45 => 39 | n => n, fun | 0 => 0 | 3 => 3 | 4 => 4 | 22 => 71 | 23 => 67 | n => n, fun n => n⟩
theorem layBs : Go.Proofs.Lays2.n26 Tryd.prog slrenS := {
  mixed := by kernel_rfl
  f26 := Tryd.func37.trans (congrArg some (by kernel_rfl))
  f33 := Tryd.func53.trans (congrArg some (by kernel_rfl))
  f34 := Tryd.func54.trans (congrArg some (by kernel_rfl))
  f38 := Tryd.func73.trans (congrArg some (by kernel_rfl))
  t0 := Tryd.underlying0
  a0 := Tryd.isAgg0
  z0 := Tryd.sizeOf0
  v0 := Tryd.zeroValue0
  t3 := Tryd.underlying3
  a3 := Tryd.isAgg3
  z3 := Tryd.sizeOf3
  v3 := Tryd.zeroValue3
  t4 := Tryd.underlying4
  a4 := Tryd.isAgg4
  z4 := Tryd.sizeOf4
  v4 := Tryd.zeroValue4
  t9 := Tryd.underlying9
  a9 := Tryd.isAgg9
  z9 := Tryd.sizeOf9
  v9 := Tryd.zeroValue9
  t24 := Tryd.underlying68
  a24 := Tryd.isAgg68
  z24 := Tryd.sizeOf68
  v24 := Tryd.zeroValue68
  t40 := Tryd.underlying75
  a40 := Tryd.isAgg75
  z40 := Tryd.sizeOf75
  v40 := Tryd.zeroValue75 }
theorem layIns : Go.Proofs.Lays2.n22 Tryd.prog slrenS := {
  mixed := by kernel_rfl
  f17 := Tryd.func84.trans (congrArg some (by kernel_rfl))
  f22 := Tryd.func40.trans (congrArg some (by kernel_rfl))
  f29 := Tryd.func55.trans (congrArg some (by kernel_rfl))
  f30 := Tryd.func56.trans (congrArg some (by kernel_rfl))
  f36 := Tryd.func74.trans (congrArg some (by kernel_rfl))
  t0 := Tryd.underlying0
  a0 := Tryd.isAgg0
  z0 := Tryd.sizeOf0
  v0 := Tryd.zeroValue0
  t3 := Tryd.underlying3
  a3 := Tryd.isAgg3
  z3 := Tryd.sizeOf3
  v3 := Tryd.zeroValue3
  t4 := Tryd.underlying4
  a4 := Tryd.isAgg4
  z4 := Tryd.sizeOf4
  v4 := Tryd.zeroValue4
  t9 := Tryd.underlying9
  a9 := Tryd.isAgg9
  z9 := Tryd.sizeOf9
  v9 := Tryd.zeroValue9
  t24 := Tryd.underlying68
  a24 := Tryd.isAgg68
  z24 := Tryd.sizeOf68
  v24 := Tryd.zeroValue68
  i9 := by kernel_rfl }
theorem layDelS : Go.Proofs.SlLaysE.n45 Tryd.prog slrenD := {
  mixed := by kernel_rfl
  f45 := ⟨Tryd.f38.name, by kernel_rfl, Tryd.func38.trans (congrArg some (by kernel_rfl))⟩
  t0 := Tryd.underlying0
  a0 := Tryd.isAgg0
  z0 := Tryd.sizeOf0
  v0 := Tryd.zeroValue0
  t3 := Tryd.underlying3
  a3 := Tryd.isAgg3
  z3 := Tryd.sizeOf3
  v3 := Tryd.zeroValue3
  t4 := Tryd.underlying4
  a4 := Tryd.isAgg4
  z4 := Tryd.sizeOf4
  v4 := Tryd.zeroValue4
  t22 := Tryd.underlying68
  a22 := Tryd.isAgg68
  z22 := Tryd.sizeOf68
  v22 := Tryd.zeroValue68
  a23 := Tryd.isAgg9
  z23 := Tryd.sizeOf9 }
theorem layCloneS : Go.Proofs.SlLaysE0.n41 Tryd.prog slrenD := {
  mixed := by kernel_rfl
  f41 := ⟨Tryd.f41.name, by kernel_rfl, Tryd.func41.trans (congrArg some (by kernel_rfl))⟩
  t4 := Tryd.underlying4
  a4 := Tryd.isAgg4
  z4 := Tryd.sizeOf4
  v4 := Tryd.zeroValue4
  t22 := Tryd.underlying68
  a22 := Tryd.isAgg68
  z22 := Tryd.sizeOf68
  v22 := Tryd.zeroValue68 }
theorem layDelP : Go.Proofs.SlLaysE.n45 Tryd.prog slrenP := {
  mixed := by kernel_rfl
  f45 := ⟨Tryd.f39.name, by kernel_rfl, Tryd.func39.trans (congrArg some (by kernel_rfl))⟩
  t0 := Tryd.underlying0
  a0 := Tryd.isAgg0
  z0 := Tryd.sizeOf0
  v0 := Tryd.zeroValue0
  t3 := Tryd.underlying3
  a3 := Tryd.isAgg3
  z3 := Tryd.sizeOf3
  v3 := Tryd.zeroValue3
  t4 := Tryd.underlying4
  a4 := Tryd.isAgg4
  z4 := Tryd.sizeOf4
  v4 := Tryd.zeroValue4
  t22 := Tryd.underlying71
  a22 := Tryd.isAgg71
  z22 := Tryd.sizeOf71
  v22 := Tryd.zeroValue71
  a23 := Tryd.isAgg67
  z23 := Tryd.sizeOf67 }

end Go.Proofs.YtecmppmkidefmaaDoor
