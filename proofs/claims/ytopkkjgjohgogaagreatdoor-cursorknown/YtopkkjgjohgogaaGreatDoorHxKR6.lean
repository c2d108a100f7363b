/- Calls of the program, run: each comes to what is said of it (written by a program). -/
import Derived.Test.YtopkkjgjohgogaaGreatDoorProg
import Derived.KernelRfl
import Derived.Test.YtopkkjgjohgogaaGreatDoorHxKE
namespace Go.Proofs.YtopkkjgjohgogaaGreatDoor
open Hx
theorem s24 : statK e24 = true := by kernel_rfl
theorem k24 : knownOk (runK (plugV Tryz.prog 100000 166 191 139 Tryz.f166 Tryz.f191) [] 200) e24 = true := by kernel_rfl
theorem s25 : statK e25 = true := by kernel_rfl
theorem k25 : knownOk (runK (plugV Tryz.prog 100000 166 191 139 Tryz.f166 Tryz.f191) [] 200) e25 = true := by kernel_rfl
theorem s26 : statK e26 = true := by kernel_rfl
theorem k26 : knownOk (runK (plugV Tryz.prog 100000 166 191 139 Tryz.f166 Tryz.f191) [] 200) e26 = true := by kernel_rfl
theorem s27 : statK e27 = true := by kernel_rfl
theorem k27 : knownOk (runK (plugV Tryz.prog 100000 166 191 139 Tryz.f166 Tryz.f191) [] 200) e27 = true := by kernel_rfl
end Go.Proofs.YtopkkjgjohgogaaGreatDoor
