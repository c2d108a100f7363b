/- Calls of the program, run: each comes to what is said of it (written by a program). -/
import Derived.Test.YtopkkjgjohgogaaGreatDoorProg
import Derived.KernelRfl
import Derived.Test.YtopkkjgjohgogaaGreatDoorHxKE
namespace Go.Proofs.YtopkkjgjohgogaaGreatDoor
open Hx
theorem s0 : statK e0 = true := by kernel_rfl
theorem k0 : knownOk (runK (plugV Tryz.prog 100000 166 191 139 Tryz.f166 Tryz.f191) [] 200) e0 = true := by kernel_rfl
theorem s1 : statK e1 = true := by kernel_rfl
theorem k1 : knownOk (runK (plugV Tryz.prog 100000 166 191 139 Tryz.f166 Tryz.f191) [] 200) e1 = true := by kernel_rfl
theorem s2 : statK e2 = true := by kernel_rfl
theorem k2 : knownOk (runK (plugV Tryz.prog 100000 166 191 139 Tryz.f166 Tryz.f191) [] 200) e2 = true := by kernel_rfl
theorem s3 : statK e3 = true := by kernel_rfl
theorem k3 : knownOk (runK (plugV Tryz.prog 100000 166 191 139 Tryz.f166 Tryz.f191) [e0, e1, e2] 200) e3 = true := by kernel_rfl
end Go.Proofs.YtopkkjgjohgogaaGreatDoor
