/- Calls of the program, run: each comes to what is said of it (written by a program). -/
import Derived.Test.YtkpemddbabbiaaaGreatDoorProg
import Derived.KernelRfl
import Derived.Test.YtkpemddbabbiaaaGreatDoorHxKE
namespace Go.Proofs.YtkpemddbabbiaaaGreatDoor
open Hx
theorem s8 : statK e8 = true := by kernel_rfl
theorem k8 : knownOk (runK (stepX Tryz.prog 100000) [] 200) e8 = true := by kernel_rfl
theorem s9 : statK e9 = true := by kernel_rfl
theorem k9 : knownOk (runK (stepX Tryz.prog 100000) [] 200) e9 = true := by kernel_rfl
theorem s10 : statK e10 = true := by kernel_rfl
theorem k10 : knownOk (runK (stepX Tryz.prog 100000) [e4, e5, e6, e7, e8, e9] 200) e10 = true := by kernel_rfl
theorem s11 : statK e11 = true := by kernel_rfl
theorem k11 : knownOk (runK (stepX Tryz.prog 100000) [] 200) e11 = true := by kernel_rfl
end Go.Proofs.YtkpemddbabbiaaaGreatDoor
