/- Calls of the program, run: each comes to what is said of it (written by a program). -/
import Derived.Test.YtopkkjgjohgogaaGreatDoorProg
import Derived.KernelRfl
import Derived.Test.YtopkkjgjohgogaaGreatDoorHxKE
namespace Go.Proofs.YtopkkjgjohgogaaGreatDoor
open Hx
theorem s20 : statK e20 = true := by kernel_rfl
theorem k20 : knownOk (runK (plugV Tryz.prog 100000 166 191 139 Tryz.f166 Tryz.f191) [] 200) e20 = true := by kernel_rfl
theorem s21 : statK e21 = true := by kernel_rfl
theorem k21 : knownOk (runK (plugV Tryz.prog 100000 166 191 139 Tryz.f166 Tryz.f191) [] 200) e21 = true := by kernel_rfl
theorem s22 : statK e22 = true := by kernel_rfl
theorem k22 : knownOk (runK (plugV Tryz.prog 100000 166 191 139 Tryz.f166 Tryz.f191) [] 200) e22 = true := by kernel_rfl
theorem s23 : statK e23 = true := by kernel_rfl
theorem k23 : knownOk (runK (plugV Tryz.prog 100000 166 191 139 Tryz.f166 Tryz.f191) [] 200) e23 = true := by kernel_rfl
end Go.Proofs.YtopkkjgjohgogaaGreatDoor
