/- Calls of the program, run: each comes to what is said of it (written by a program). -/
import Derived.Test.YtopkkjgjohgogaaGreatDoorProg
import Derived.KernelRfl
import Derived.Test.YtopkkjgjohgogaaGreatDoorHxKE
namespace Go.Proofs.YtopkkjgjohgogaaGreatDoor
open Hx
theorem s16 : statK e16 = true := by kernel_rfl
theorem k16 : knownOk (runK (plugV Tryz.prog 100000 166 191 139 Tryz.f166 Tryz.f191) [] 200) e16 = true := by kernel_rfl
theorem s17 : statK e17 = true := by kernel_rfl
theorem k17 : knownOk (runK (plugV Tryz.prog 100000 166 191 139 Tryz.f166 Tryz.f191) [] 200) e17 = true := by kernel_rfl
theorem s18 : statK e18 = true := by kernel_rfl
theorem k18 : knownOk (runK (plugV Tryz.prog 100000 166 191 139 Tryz.f166 Tryz.f191) [e15, e16, e17] 200) e18 = true := by kernel_rfl
theorem s19 : statK e19 = true := by kernel_rfl
theorem k19 : knownOk (runK (plugV Tryz.prog 100000 166 191 139 Tryz.f166 Tryz.f191) [] 200) e19 = true := by kernel_rfl
end Go.Proofs.YtopkkjgjohgogaaGreatDoor
