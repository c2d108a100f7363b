/- Calls of the program, run: each comes to what is said of it (written by a program). -/
import Derived.Test.YtopkkjgjohgogaaGreatDoorProg
import Derived.KernelRfl
import Derived.Test.YtopkkjgjohgogaaGreatDoorHxKE
namespace Go.Proofs.YtopkkjgjohgogaaGreatDoor
open Hx
theorem s8 : statK e8 = true := by kernel_rfl
theorem k8 : knownOk (runK (plugV Tryz.prog 100000 166 191 139 Tryz.f166 Tryz.f191) [] 200) e8 = true := by kernel_rfl
theorem s9 : statK e9 = true := by kernel_rfl
theorem k9 : knownOk (runK (plugV Tryz.prog 100000 166 191 139 Tryz.f166 Tryz.f191) [] 200) e9 = true := by kernel_rfl
theorem s10 : statK e10 = true := by kernel_rfl
theorem k10 : knownOk (runK (plugV Tryz.prog 100000 166 191 139 Tryz.f166 Tryz.f191) [e7, e8, e9] 200) e10 = true := by kernel_rfl
theorem s11 : statK e11 = true := by kernel_rfl
theorem k11 : knownOk (runK (plugV Tryz.prog 100000 166 191 139 Tryz.f166 Tryz.f191) [] 200) e11 = true := by kernel_rfl
end Go.Proofs.YtopkkjgjohgogaaGreatDoor
