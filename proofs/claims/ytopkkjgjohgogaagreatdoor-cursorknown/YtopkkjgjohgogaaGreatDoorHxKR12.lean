/- Calls of the program, run: each comes to what is said of it (written by a program). -/
import Derived.Test.YtopkkjgjohgogaaGreatDoorProg
import Derived.KernelRfl
import Derived.Test.YtopkkjgjohgogaaGreatDoorHxKE
namespace Go.Proofs.YtopkkjgjohgogaaGreatDoor
open Hx
theorem s48 : statK e48 = true := by kernel_rfl
theorem k48 : knownOk (runK (plugV Tryz.prog 100000 166 191 139 Tryz.f166 Tryz.f191) [] 200) e48 = true := by kernel_rfl
theorem s49 : statK e49 = true := by kernel_rfl
theorem k49 : knownOk (runK (plugV Tryz.prog 100000 166 191 139 Tryz.f166 Tryz.f191) [] 200) e49 = true := by kernel_rfl
theorem s50 : statK e50 = true := by kernel_rfl
theorem k50 : knownOk (runK (plugV Tryz.prog 100000 166 191 139 Tryz.f166 Tryz.f191) [] 200) e50 = true := by kernel_rfl
theorem s51 : statK e51 = true := by kernel_rfl
theorem k51 : knownOk (runK (plugV Tryz.prog 100000 166 191 139 Tryz.f166 Tryz.f191) [] 200) e51 = true := by kernel_rfl
end Go.Proofs.YtopkkjgjohgogaaGreatDoor
