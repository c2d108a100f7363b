/- Calls of the program, run: all of them (written by a program). -/
import Derived.Test.YtkpemddbabbiaaaGreatDoorHxKR0
import Derived.Test.YtkpemddbabbiaaaGreatDoorHxKR1
import Derived.Test.YtkpemddbabbiaaaGreatDoorHxKR2
import Derived.Test.YtkpemddbabbiaaaGreatDoorHxKR3
import Derived.Test.YtkpemddbabbiaaaGreatDoorHxKR4
import Derived.Test.YtkpemddbabbiaaaGreatDoorHxKR5
namespace Go.Proofs.YtkpemddbabbiaaaGreatDoor
open Hx
theorem fines (hb : ∀ call, CallOk Tryz.prog call → CallOk Tryz.prog ((stepX Tryz.prog 100000) call)) : CallOk Tryz.prog (runK (stepX Tryz.prog 100000) [e10, e15, e16, e17, e18, e19, e20, e22, e23] 200) := by
  have f0 : Fine Tryz.prog e0 := fine_of (runK_ok hb (.nil) 200) s0 k0
  have f1 : Fine Tryz.prog e1 := fine_of (runK_ok hb (.nil) 200) s1 k1
  have f2 : Fine Tryz.prog e2 := fine_of (runK_ok hb (.nil) 200) s2 k2
  have f3 : Fine Tryz.prog e3 := fine_of (runK_ok hb (.cons f0 <| .cons f1 <| .cons f2 <| .nil) 200) s3 k3
  have f4 : Fine Tryz.prog e4 := fine_of (runK_ok hb (.cons f3 <| .nil) 200) s4 k4
  have f5 : Fine Tryz.prog e5 := fine_of (runK_ok hb (.nil) 200) s5 k5
  have f6 : Fine Tryz.prog e6 := fine_of (runK_ok hb (.nil) 200) s6 k6
  have f7 : Fine Tryz.prog e7 := fine_of (runK_ok hb (.nil) 200) s7 k7
  have f8 : Fine Tryz.prog e8 := fine_of (runK_ok hb (.nil) 200) s8 k8
  have f9 : Fine Tryz.prog e9 := fine_of (runK_ok hb (.nil) 200) s9 k9
  have f10 : Fine Tryz.prog e10 := fine_of (runK_ok hb (.cons f4 <| .cons f5 <| .cons f6 <| .cons f7 <| .cons f8 <| .cons f9 <| .nil) 200) s10 k10
  have f11 : Fine Tryz.prog e11 := fine_of (runK_ok hb (.nil) 200) s11 k11
  have f12 : Fine Tryz.prog e12 := fine_of (runK_ok hb (.nil) 200) s12 k12
  have f13 : Fine Tryz.prog e13 := fine_of (runK_ok hb (.nil) 200) s13 k13
  have f14 : Fine Tryz.prog e14 := fine_of (runK_ok hb (.cons f11 <| .cons f12 <| .cons f13 <| .nil) 200) s14 k14
  have f15 : Fine Tryz.prog e15 := fine_of (runK_ok hb (.cons f14 <| .nil) 200) s15 k15
  have f16 : Fine Tryz.prog e16 := fine_of (runK_ok hb (.nil) 200) s16 k16
  have f17 : Fine Tryz.prog e17 := fine_of (runK_ok hb (.nil) 200) s17 k17
  have f18 : Fine Tryz.prog e18 := fine_of (runK_ok hb (.nil) 200) s18 k18
  have f19 : Fine Tryz.prog e19 := fine_of (runK_ok hb (.nil) 200) s19 k19
  have f20 : Fine Tryz.prog e20 := fine_of (runK_ok hb (.nil) 200) s20 k20
  have f21 : Fine Tryz.prog e21 := fine_of (runK_ok hb (.nil) 200) s21 k21
  have f22 : Fine Tryz.prog e22 := fine_of (runK_ok hb (.cons f21 <| .nil) 200) s22 k22
  have f23 : Fine Tryz.prog e23 := fine_of (runK_ok hb (.nil) 200) s23 k23
  exact runK_ok hb (.cons f10 <| .cons f15 <| .cons f16 <| .cons f17 <| .cons f18 <| .cons f19 <| .cons f20 <| .cons f22 <| .cons f23 <| .nil) 200
theorem top_run : isTrue (runK (stepX Tryz.prog 100000) [e10, e15, e16, e17, e18, e19, e20, e22, e23] 200 3 [] (H0 0 5)) = true := by kernel_rfl
end Go.Proofs.YtkpemddbabbiaaaGreatDoor
