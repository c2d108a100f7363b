/- Calls of the program, run: each comes to what is said of it (written by a program). -/
import Derived.Test.YtopkkjgjohgogaaGreatDoorProg
import Derived.KernelRfl
import Derived.Test.YtopkkjgjohgogaaGreatDoorHxKE
namespace Go.Proofs.YtopkkjgjohgogaaGreatDoor
open Hx
theorem s32 : statK e32 = true := by kernel_rfl
theorem k32 : knownOk (runK (plugV Tryz.prog 100000 166 191 139 Tryz.f166 Tryz.f191) [] 200) e32 = true := by kernel_rfl
theorem s33 : statK e33 = true := by kernel_rfl
theorem k33 : knownOk (runK (plugV Tryz.prog 100000 166 191 139 Tryz.f166 Tryz.f191) [] 200) e33 = true := by kernel_rfl
theorem s34 : statK e34 = true := by kernel_rfl
theorem k34 : knownOk (runK (plugV Tryz.prog 100000 166 191 139 Tryz.f166 Tryz.f191) [] 200) e34 = true := by kernel_rfl
theorem s35 : statK e35 = true := by kernel_rfl
theorem k35 : knownOk (runK (plugV Tryz.prog 100000 166 191 139 Tryz.f166 Tryz.f191) [] 200) e35 = true := by kernel_rfl
end Go.Proofs.YtopkkjgjohgogaaGreatDoor
