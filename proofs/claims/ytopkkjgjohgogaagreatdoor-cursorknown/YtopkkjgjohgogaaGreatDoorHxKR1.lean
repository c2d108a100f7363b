/- Calls of the program, run: each comes to what is said of it (written by a program). -/
import Derived.Test.YtopkkjgjohgogaaGreatDoorProg
import Derived.KernelRfl
import Derived.Test.YtopkkjgjohgogaaGreatDoorHxKE
namespace Go.Proofs.YtopkkjgjohgogaaGreatDoor
open Hx
theorem s4 : statK e4 = true := by kernel_rfl
theorem k4 : knownOk (runK (plugV Tryz.prog 100000 166 191 139 Tryz.f166 Tryz.f191) [] 200) e4 = true := by kernel_rfl
theorem s5 : statK e5 = true := by kernel_rfl
theorem k5 : knownOk (runK (plugV Tryz.prog 100000 166 191 139 Tryz.f166 Tryz.f191) [] 200) e5 = true := by kernel_rfl
theorem s6 : statK e6 = true := by kernel_rfl
theorem k6 : knownOk (runK (plugV Tryz.prog 100000 166 191 139 Tryz.f166 Tryz.f191) [] 200) e6 = true := by kernel_rfl
theorem s7 : statK e7 = true := by kernel_rfl
theorem k7 : knownOk (runK (plugV Tryz.prog 100000 166 191 139 Tryz.f166 Tryz.f191) [] 200) e7 = true := by kernel_rfl
end Go.Proofs.YtopkkjgjohgogaaGreatDoor
