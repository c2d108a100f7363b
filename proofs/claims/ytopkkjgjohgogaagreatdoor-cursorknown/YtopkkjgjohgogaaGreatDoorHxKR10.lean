/- Calls of the program, run: each comes to what is said of it (written by a program). -/
import Derived.Test.YtopkkjgjohgogaaGreatDoorProg
import Derived.KernelRfl
import Derived.Test.YtopkkjgjohgogaaGreatDoorHxKE
namespace Go.Proofs.YtopkkjgjohgogaaGreatDoor
open Hx
theorem s40 : statK e40 = true := by kernel_rfl
theorem k40 : knownOk (runK (plugV Tryz.prog 100000 166 191 139 Tryz.f166 Tryz.f191) [] 200) e40 = true := by kernel_rfl
theorem s41 : statK e41 = true := by kernel_rfl
theorem k41 : knownOk (runK (plugV Tryz.prog 100000 166 191 139 Tryz.f166 Tryz.f191) [] 200) e41 = true := by kernel_rfl
theorem s42 : statK e42 = true := by kernel_rfl
theorem k42 : knownOk (runK (plugV Tryz.prog 100000 166 191 139 Tryz.f166 Tryz.f191) [] 200) e42 = true := by kernel_rfl
theorem s43 : statK e43 = true := by kernel_rfl
theorem k43 : knownOk (runK (plugV Tryz.prog 100000 166 191 139 Tryz.f166 Tryz.f191) [] 200) e43 = true := by kernel_rfl
end Go.Proofs.YtopkkjgjohgogaaGreatDoor
