/- Calls of the program, run: each comes to what is said of it (written by a program). -/
import Derived.Test.YtopkkjgjohgogaaGreatDoorProg
import Derived.KernelRfl
import Derived.Test.YtopkkjgjohgogaaGreatDoorHxKE
namespace Go.Proofs.YtopkkjgjohgogaaGreatDoor
open Hx
theorem s36 : statK e36 = true := by kernel_rfl
theorem k36 : knownOk (runK (plugV Tryz.prog 100000 166 191 139 Tryz.f166 Tryz.f191) [] 200) e36 = true := by kernel_rfl
theorem s37 : statK e37 = true := by kernel_rfl
theorem k37 : knownOk (runK (plugV Tryz.prog 100000 166 191 139 Tryz.f166 Tryz.f191) [] 200) e37 = true := by kernel_rfl
theorem s38 : statK e38 = true := by kernel_rfl
theorem k38 : knownOk (runK (plugV Tryz.prog 100000 166 191 139 Tryz.f166 Tryz.f191) [] 200) e38 = true := by kernel_rfl
theorem s39 : statK e39 = true := by kernel_rfl
theorem k39 : knownOk (runK (plugV Tryz.prog 100000 166 191 139 Tryz.f166 Tryz.f191) [] 200) e39 = true := by kernel_rfl
end Go.Proofs.YtopkkjgjohgogaaGreatDoor
