/- Calls of the program, run: each comes to what is said of it (written by a program). -/
import Derived.Test.YtopkkjgjohgogaaGreatDoorProg
import Derived.KernelRfl
import Derived.Test.YtopkkjgjohgogaaGreatDoorHxKE
namespace Go.Proofs.YtopkkjgjohgogaaGreatDoor
open Hx
theorem s12 : statK e12 = true := by kernel_rfl
theorem k12 : knownOk (runK (plugV Tryz.prog 100000 166 191 139 Tryz.f166 Tryz.f191) [] 200) e12 = true := by kernel_rfl
theorem s13 : statK e13 = true := by kernel_rfl
theorem k13 : knownOk (runK (plugV Tryz.prog 100000 166 191 139 Tryz.f166 Tryz.f191) [] 200) e13 = true := by kernel_rfl
theorem s14 : statK e14 = true := by kernel_rfl
theorem k14 : knownOk (runK (plugV Tryz.prog 100000 166 191 139 Tryz.f166 Tryz.f191) [e11, e12, e13] 200) e14 = true := by kernel_rfl
theorem s15 : statK e15 = true := by kernel_rfl
theorem k15 : knownOk (runK (plugV Tryz.prog 100000 166 191 139 Tryz.f166 Tryz.f191) [] 200) e15 = true := by kernel_rfl
end Go.Proofs.YtopkkjgjohgogaaGreatDoor
