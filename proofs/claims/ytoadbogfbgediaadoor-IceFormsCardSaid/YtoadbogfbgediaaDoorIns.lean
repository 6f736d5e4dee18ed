/- The insertion sort of a part of a row, by the library's contract laid over this program (no statement of the seat). -/
import Derived.Test.YtoadbogfbgediaaDoorSwap
namespace Go.Proofs.YtoadbogfbgediaaDoor
open Go.RowKit Go.Lib Go.Sort Go.Shelf

def renP : Ren := ⟨fun n => if n = 20 then 52 else n, fun n => if n = 22 then 33 else if n = 24 then 41 else if n = 25 then 70 else n, fun x => x⟩
theorem layInsP : SlLaysF0.n20 Tryd.prog renP where
  mixed := by kernel_rfl
  f20 := ⟨Tryd.f52.name, by kernel_rfl, by kernel_rfl⟩
  t0 := by kernel_rfl
  a0 := fun w => by kernel_rfl
  z0 := fun w => by kernel_rfl
  v0 := fun w => by kernel_rfl
  t3 := by kernel_rfl
  a3 := fun w => by kernel_rfl
  z3 := fun w => by kernel_rfl
  v3 := fun w => by kernel_rfl
  t4 := by kernel_rfl
  a4 := fun w => by kernel_rfl
  z4 := fun w => by kernel_rfl
  v4 := fun w => by kernel_rfl
  t22 := by kernel_rfl
  a22 := fun w => by kernel_rfl
  z22 := fun w => by kernel_rfl
  v22 := fun w => by kernel_rfl
  t25 := by kernel_rfl
  a25 := fun w => by kernel_rfl
  z25 := fun w => by kernel_rfl
  v25 := fun w => by kernel_rfl
end Go.Proofs.YtoadbogfbgediaaDoor
