/- Calls of the program, run: all of them (written by a program). -/
import Derived.Test.YtopkkjgjohgogaaGreatDoorHxKR0
import Derived.Test.YtopkkjgjohgogaaGreatDoorHxKR1
import Derived.Test.YtopkkjgjohgogaaGreatDoorHxKR2
import Derived.Test.YtopkkjgjohgogaaGreatDoorHxKR3
import Derived.Test.YtopkkjgjohgogaaGreatDoorHxKR4
import Derived.Test.YtopkkjgjohgogaaGreatDoorHxKR5
import Derived.Test.YtopkkjgjohgogaaGreatDoorHxKR6
import Derived.Test.YtopkkjgjohgogaaGreatDoorHxKR7
import Derived.Test.YtopkkjgjohgogaaGreatDoorHxKR8
import Derived.Test.YtopkkjgjohgogaaGreatDoorHxKR9
import Derived.Test.YtopkkjgjohgogaaGreatDoorHxKR10
import Derived.Test.YtopkkjgjohgogaaGreatDoorHxKR11
import Derived.Test.YtopkkjgjohgogaaGreatDoorHxKR12
import Derived.Test.YtopkkjgjohgogaaGreatDoorHxKR13
namespace Go.Proofs.YtopkkjgjohgogaaGreatDoor
open Hx
theorem fines (hb : ∀ call, CallOk Tryz.prog call → CallOk Tryz.prog ((plugV Tryz.prog 100000 166 191 139 Tryz.f166 Tryz.f191) call)) : CallOk Tryz.prog (runK (plugV Tryz.prog 100000 166 191 139 Tryz.f166 Tryz.f191) [e3, e4, e5, e6, e10, e14, e18, e19, e20, e21, e22, e23, e24, e25, e26, e27, e28, e29, e30, e31, e32, e33, e34, e35, e36, e37, e38, e39, e40, e41, e42, e43, e44, e45, e46, e47, e48, e49, e50, e51, e52, e53] 200) := by
  have f0 : Fine Tryz.prog e0 := fine_of (runK_ok hb (.nil) 200) s0 k0
  have f1 : Fine Tryz.prog e1 := fine_of (runK_ok hb (.nil) 200) s1 k1
  have f2 : Fine Tryz.prog e2 := fine_of (runK_ok hb (.nil) 200) s2 k2
  have f3 : Fine Tryz.prog e3 := fine_of (runK_ok hb (.cons f0 <| .cons f1 <| .cons f2 <| .nil) 200) s3 k3
  have f4 : Fine Tryz.prog e4 := fine_of (runK_ok hb (.nil) 200) s4 k4
  have f5 : Fine Tryz.prog e5 := fine_of (runK_ok hb (.nil) 200) s5 k5
  have f6 : Fine Tryz.prog e6 := fine_of (runK_ok hb (.nil) 200) s6 k6
  have f7 : Fine Tryz.prog e7 := fine_of (runK_ok hb (.nil) 200) s7 k7
  have f8 : Fine Tryz.prog e8 := fine_of (runK_ok hb (.nil) 200) s8 k8
  have f9 : Fine Tryz.prog e9 := fine_of (runK_ok hb (.nil) 200) s9 k9
  have f10 : Fine Tryz.prog e10 := fine_of (runK_ok hb (.cons f7 <| .cons f8 <| .cons f9 <| .nil) 200) s10 k10
  have f11 : Fine Tryz.prog e11 := fine_of (runK_ok hb (.nil) 200) s11 k11
  have f12 : Fine Tryz.prog e12 := fine_of (runK_ok hb (.nil) 200) s12 k12
  have f13 : Fine Tryz.prog e13 := fine_of (runK_ok hb (.nil) 200) s13 k13
  have f14 : Fine Tryz.prog e14 := fine_of (runK_ok hb (.cons f11 <| .cons f12 <| .cons f13 <| .nil) 200) s14 k14
  have f15 : Fine Tryz.prog e15 := fine_of (runK_ok hb (.nil) 200) s15 k15
  have f16 : Fine Tryz.prog e16 := fine_of (runK_ok hb (.nil) 200) s16 k16
  have f17 : Fine Tryz.prog e17 := fine_of (runK_ok hb (.nil) 200) s17 k17
  have f18 : Fine Tryz.prog e18 := fine_of (runK_ok hb (.cons f15 <| .cons f16 <| .cons f17 <| .nil) 200) s18 k18
  have f19 : Fine Tryz.prog e19 := fine_of (runK_ok hb (.nil) 200) s19 k19
  have f20 : Fine Tryz.prog e20 := fine_of (runK_ok hb (.nil) 200) s20 k20
  have f21 : Fine Tryz.prog e21 := fine_of (runK_ok hb (.nil) 200) s21 k21
  have f22 : Fine Tryz.prog e22 := fine_of (runK_ok hb (.nil) 200) s22 k22
  have f23 : Fine Tryz.prog e23 := fine_of (runK_ok hb (.nil) 200) s23 k23
  have f24 : Fine Tryz.prog e24 := fine_of (runK_ok hb (.nil) 200) s24 k24
  have f25 : Fine Tryz.prog e25 := fine_of (runK_ok hb (.nil) 200) s25 k25
  have f26 : Fine Tryz.prog e26 := fine_of (runK_ok hb (.nil) 200) s26 k26
  have f27 : Fine Tryz.prog e27 := fine_of (runK_ok hb (.nil) 200) s27 k27
  have f28 : Fine Tryz.prog e28 := fine_of (runK_ok hb (.nil) 200) s28 k28
  have f29 : Fine Tryz.prog e29 := fine_of (runK_ok hb (.nil) 200) s29 k29
  have f30 : Fine Tryz.prog e30 := fine_of (runK_ok hb (.nil) 200) s30 k30
  have f31 : Fine Tryz.prog e31 := fine_of (runK_ok hb (.nil) 200) s31 k31
  have f32 : Fine Tryz.prog e32 := fine_of (runK_ok hb (.nil) 200) s32 k32
  have f33 : Fine Tryz.prog e33 := fine_of (runK_ok hb (.nil) 200) s33 k33
  have f34 : Fine Tryz.prog e34 := fine_of (runK_ok hb (.nil) 200) s34 k34
  have f35 : Fine Tryz.prog e35 := fine_of (runK_ok hb (.nil) 200) s35 k35
  have f36 : Fine Tryz.prog e36 := fine_of (runK_ok hb (.nil) 200) s36 k36
  have f37 : Fine Tryz.prog e37 := fine_of (runK_ok hb (.nil) 200) s37 k37
  have f38 : Fine Tryz.prog e38 := fine_of (runK_ok hb (.nil) 200) s38 k38
  have f39 : Fine Tryz.prog e39 := fine_of (runK_ok hb (.nil) 200) s39 k39
  have f40 : Fine Tryz.prog e40 := fine_of (runK_ok hb (.nil) 200) s40 k40
  have f41 : Fine Tryz.prog e41 := fine_of (runK_ok hb (.nil) 200) s41 k41
  have f42 : Fine Tryz.prog e42 := fine_of (runK_ok hb (.nil) 200) s42 k42
  have f43 : Fine Tryz.prog e43 := fine_of (runK_ok hb (.nil) 200) s43 k43
  have f44 : Fine Tryz.prog e44 := fine_of (runK_ok hb (.nil) 200) s44 k44
  have f45 : Fine Tryz.prog e45 := fine_of (runK_ok hb (.nil) 200) s45 k45
  have f46 : Fine Tryz.prog e46 := fine_of (runK_ok hb (.nil) 200) s46 k46
  have f47 : Fine Tryz.prog e47 := fine_of (runK_ok hb (.nil) 200) s47 k47
  have f48 : Fine Tryz.prog e48 := fine_of (runK_ok hb (.nil) 200) s48 k48
  have f49 : Fine Tryz.prog e49 := fine_of (runK_ok hb (.nil) 200) s49 k49
  have f50 : Fine Tryz.prog e50 := fine_of (runK_ok hb (.nil) 200) s50 k50
  have f51 : Fine Tryz.prog e51 := fine_of (runK_ok hb (.nil) 200) s51 k51
  have f52 : Fine Tryz.prog e52 := fine_of (runK_ok hb (.nil) 200) s52 k52
  have f53 : Fine Tryz.prog e53 := fine_of (runK_ok hb (.nil) 200) s53 k53
  exact runK_ok hb (.cons f3 <| .cons f4 <| .cons f5 <| .cons f6 <| .cons f10 <| .cons f14 <| .cons f18 <| .cons f19 <| .cons f20 <| .cons f21 <| .cons f22 <| .cons f23 <| .cons f24 <| .cons f25 <| .cons f26 <| .cons f27 <| .cons f28 <| .cons f29 <| .cons f30 <| .cons f31 <| .cons f32 <| .cons f33 <| .cons f34 <| .cons f35 <| .cons f36 <| .cons f37 <| .cons f38 <| .cons f39 <| .cons f40 <| .cons f41 <| .cons f42 <| .cons f43 <| .cons f44 <| .cons f45 <| .cons f46 <| .cons f47 <| .cons f48 <| .cons f49 <| .cons f50 <| .cons f51 <| .cons f52 <| .cons f53 <| .nil) 200
theorem top_run : isTrue (runK (plugV Tryz.prog 100000 166 191 139 Tryz.f166 Tryz.f191) [e3, e4, e5, e6, e10, e14, e18, e19, e20, e21, e22, e23, e24, e25, e26, e27, e28, e29, e30, e31, e32, e33, e34, e35, e36, e37, e38, e39, e40, e41, e42, e43, e44, e45, e46, e47, e48, e49, e50, e51, e52, e53] 200 3 [] (H0 0 5)) = true := by kernel_rfl
end Go.Proofs.YtopkkjgjohgogaaGreatDoor
