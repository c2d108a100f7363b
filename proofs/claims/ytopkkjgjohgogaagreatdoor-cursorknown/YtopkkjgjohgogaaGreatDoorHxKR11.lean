/- Calls of the program, run: each comes to what is said of it (written by a program). -/
import Derived.Test.YtopkkjgjohgogaaGreatDoorProg
import Derived.KernelRfl
import Derived.Test.YtopkkjgjohgogaaGreatDoorHxKE
namespace Go.Proofs.YtopkkjgjohgogaaGreatDoor
open Hx
theorem s44 : statK e44 = true := by kernel_rfl
theorem k44 : knownOk (runK (plugV Tryz.prog 100000 166 191 139 Tryz.f166 Tryz.f191) [] 200) e44 = true := by kernel_rfl
theorem s45 : statK e45 = true := by kernel_rfl
theorem k45 : knownOk (runK (plugV Tryz.prog 100000 166 191 139 Tryz.f166 Tryz.f191) [] 200) e45 = true := by kernel_rfl
theorem s46 : statK e46 = true := by kernel_rfl
theorem k46 : knownOk (runK (plugV Tryz.prog 100000 166 191 139 Tryz.f166 Tryz.f191) [] 200) e46 = true := by kernel_rfl
theorem s47 : statK e47 = true := by kernel_rfl
theorem k47 : knownOk (runK (plugV Tryz.prog 100000 166 191 139 Tryz.f166 Tryz.f191) [] 200) e47 = true := by kernel_rfl
end Go.Proofs.YtopkkjgjohgogaaGreatDoor
