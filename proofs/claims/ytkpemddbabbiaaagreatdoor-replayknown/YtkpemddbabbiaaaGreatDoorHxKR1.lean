/- Calls of the program, run: each comes to what is said of it (written by a program). -/
import Derived.Test.YtkpemddbabbiaaaGreatDoorProg
import Derived.KernelRfl
import Derived.Test.YtkpemddbabbiaaaGreatDoorHxKE
namespace Go.Proofs.YtkpemddbabbiaaaGreatDoor
open Hx
theorem s4 : statK e4 = true := by kernel_rfl
theorem k4 : knownOk (runK (stepX Tryz.prog 100000) [e3] 200) e4 = true := by kernel_rfl
theorem s5 : statK e5 = true := by kernel_rfl
theorem k5 : knownOk (runK (stepX Tryz.prog 100000) [] 200) e5 = true := by kernel_rfl
theorem s6 : statK e6 = true := by kernel_rfl
theorem k6 : knownOk (runK (stepX Tryz.prog 100000) [] 200) e6 = true := by kernel_rfl
theorem s7 : statK e7 = true := by kernel_rfl
theorem k7 : knownOk (runK (stepX Tryz.prog 100000) [] 200) e7 = true := by kernel_rfl
end Go.Proofs.YtkpemddbabbiaaaGreatDoor
