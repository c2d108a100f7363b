/- Calls of the program, run: each comes to what is said of it (written by a program). -/
import Derived.Test.YtopkkjgjohgogaaGreatDoorProg
import Derived.KernelRfl
import Derived.Test.YtopkkjgjohgogaaGreatDoorHxKE
namespace Go.Proofs.YtopkkjgjohgogaaGreatDoor
open Hx
theorem s52 : statK e52 = true := by kernel_rfl
theorem k52 : knownOk (runK (plugV Tryz.prog 100000 166 191 139 Tryz.f166 Tryz.f191) [] 200) e52 = true := by kernel_rfl
theorem s53 : statK e53 = true := by kernel_rfl
theorem k53 : knownOk (runK (plugV Tryz.prog 100000 166 191 139 Tryz.f166 Tryz.f191) [] 200) e53 = true := by kernel_rfl
end Go.Proofs.YtopkkjgjohgogaaGreatDoor
