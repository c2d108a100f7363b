/- Calls of the program, run: each comes to what is said of it (written by a program). -/
import Derived.Test.YtopkkjgjohgogaaGreatDoorProg
import Derived.KernelRfl
import Derived.Test.YtopkkjgjohgogaaGreatDoorHxKE
namespace Go.Proofs.YtopkkjgjohgogaaGreatDoor
open Hx
theorem s28 : statK e28 = true := by kernel_rfl
theorem k28 : knownOk (runK (plugV Tryz.prog 100000 166 191 139 Tryz.f166 Tryz.f191) [] 200) e28 = true := by kernel_rfl
theorem s29 : statK e29 = true := by kernel_rfl
theorem k29 : knownOk (runK (plugV Tryz.prog 100000 166 191 139 Tryz.f166 Tryz.f191) [] 200) e29 = true := by kernel_rfl
theorem s30 : statK e30 = true := by kernel_rfl
theorem k30 : knownOk (runK (plugV Tryz.prog 100000 166 191 139 Tryz.f166 Tryz.f191) [] 200) e30 = true := by kernel_rfl
theorem s31 : statK e31 = true := by kernel_rfl
theorem k31 : knownOk (runK (plugV Tryz.prog 100000 166 191 139 Tryz.f166 Tryz.f191) [] 200) e31 = true := by kernel_rfl
end Go.Proofs.YtopkkjgjohgogaaGreatDoor
