/- Calls of the program, run: each comes to what is said of it (written by a program). -/
import Derived.Test.YtkpemddbabbiaaaGreatDoorProg
import Derived.KernelRfl
import Derived.Test.YtkpemddbabbiaaaGreatDoorHxKE
namespace Go.Proofs.YtkpemddbabbiaaaGreatDoor
open Hx
theorem s0 : statK e0 = true := by kernel_rfl
theorem k0 : knownOk (runK (stepX Tryz.prog 100000) [] 200) e0 = true := by kernel_rfl
theorem s1 : statK e1 = true := by kernel_rfl
theorem k1 : knownOk (runK (stepX Tryz.prog 100000) [] 200) e1 = true := by kernel_rfl
theorem s2 : statK e2 = true := by kernel_rfl
theorem k2 : knownOk (runK (stepX Tryz.prog 100000) [] 200) e2 = true := by kernel_rfl
theorem s3 : statK e3 = true := by kernel_rfl
theorem k3 : knownOk (runK (stepX Tryz.prog 100000) [e0, e1, e2] 200) e3 = true := by kernel_rfl
end Go.Proofs.YtkpemddbabbiaaaGreatDoor
