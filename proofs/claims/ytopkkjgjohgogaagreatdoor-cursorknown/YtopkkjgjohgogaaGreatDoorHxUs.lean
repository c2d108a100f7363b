/- The seat's program: Unify and copied: their code has the form that the evaluator knows. -/
import Derived.Test.YtopkkjgjohgogaaGreatDoorProg
import Derived.KernelRfl
import Derived.Test.YtopkkjgjohgogaaGreatDoorHxYp
namespace Go.Proofs.YtopkkjgjohgogaaGreatDoor
open Hx Go

noncomputable def cU : Code := fnBody Tryz.f166
noncomputable def lU : Code := cLoop (cBlk (cB (cA (cB (cB (cB (cB cU)))))))
noncomputable def bU : Code := cB (cB lU)
theorem uS : fnBody Tryz.f166 = .seq (cA cU) (.seq (cA (cB cU)) (.seq (cA (cB (cB cU))) (.seq (cA (cB (cB (cB cU)))) (.seq (.seq (cA (cA (cB (cB (cB (cB cU)))))) (.block (cId (cB (cA (cB (cB (cB (cB cU))))))) (.loop lU))) (cB (cB (cB (cB (cB cU))))))))) := by kernel_rfl
theorem uL : RangeShape lU 31 32 33 (cId (cB (cA (cB (cB (cB (cB cU))))))) (.block (cId bU) (.seq (cA (cBlk bU)) (cB (cBlk bU)))) := range_of (by kernel_rfl) (by kernel_rfl) (by kernel_rfl) (by kernel_rfl) (by kernel_rfl) (by kernel_rfl) (by kernel_rfl) (by kernel_rfl)
theorem uR : EntryShape (cA (cBlk bU)) 31 34 35 9 := entry_of (by kernel_rfl) (by kernel_rfl) (by kernel_rfl) (by kernel_rfl) (by kernel_rfl) (by kernel_rfl) (by kernel_rfl) (by kernel_rfl) (by kernel_rfl) (by kernel_rfl) (by kernel_rfl)
theorem uB : Tryz.f166.body = some (fnBody Tryz.f166) := by kernel_rfl
theorem uN : Nat.ble 36 Tryz.f166.ntmps = true := by kernel_rfl
noncomputable def cC : Code := fnBody Tryz.f191
noncomputable def lC : Code := cLoop (cBlk (cB (cA (cB (cB cC)))))
noncomputable def bC : Code := cB (cB lC)
theorem cS : fnBody Tryz.f191 = .seq (cA cC) (.seq (cA (cB cC)) (.seq (.seq (cA (cA (cB (cB cC)))) (.block (cId (cB (cA (cB (cB cC))))) (.loop lC))) (cB (cB (cB cC))))) := by kernel_rfl
theorem cL : RangeShape lC 16 17 18 (cId (cB (cA (cB (cB cC))))) (.block (cId bC) (cBlk bC)) := range_of (by kernel_rfl) (by kernel_rfl) (by kernel_rfl) (by kernel_rfl) (by kernel_rfl) (by kernel_rfl) (by kernel_rfl) (by kernel_rfl)
theorem cBd : Tryz.f191.body = some (fnBody Tryz.f191) := by kernel_rfl
theorem cN : Nat.ble 25 Tryz.f191.ntmps = true := by kernel_rfl
noncomputable def zC : List AV := match compOps Tryz.prog Tryz.f191.ntmps (cOps (cA (cBlk bC))).toList (cOps (cA (cBlk bC))).toList [] with
  | _ :: _ :: _ :: ⟨.a (.alc zs), _⟩ :: _ => zs
  | _ => []
theorem cP : CopyShape Tryz.prog Tryz.f191.ntmps (outsF Tryz.f191) (cBlk bC) 16 3 19 20 21 5 4 22 23 24 4 zC where
  ex := ⟨cId (cA (cBlk bC)), cId (cB (cBlk bC)), cOps (cA (cBlk bC)), cOps (cB (cBlk bC)), by kernel_rfl, by kernel_rfl, by kernel_rfl, by kernel_rfl, by kernel_rfl⟩
  zl := by kernel_rfl
  o1 := by kernel_rfl
  o2 := by kernel_rfl
  ne := by decide
theorem ovUs (hmx : Tryz.prog.follows .mixedOrders = true) (hng : NoNG Tryz.prog) {call : CallT} (hcall : CallOk Tryz.prog call) : OvOk Tryz.prog 166 (resZ Tryz.prog Tryz.f166 (xUnify Tryz.prog Tryz.f166.ntmps (outsF Tryz.f166) 100000 (fnBody Tryz.f166) call)) :=
  ovU hmx hng hcall Tryz.func166 uB uS uL uR (Nat.le_of_ble_eq_true uN)
theorem ovCs (hmx : Tryz.prog.follows .mixedOrders = true) (hng : NoNG Tryz.prog) {call : CallT} (hcall : CallOk Tryz.prog call) : OvOk Tryz.prog 191 (resZ Tryz.prog Tryz.f191 (xCopied Tryz.prog Tryz.f191.ntmps (outsF Tryz.f191) 100000 (fnBody Tryz.f191) call)) :=
  ovC hmx hng hcall Tryz.func191 cBd cS cL cP (Nat.le_of_ble_eq_true cN)
end Go.Proofs.YtopkkjgjohgogaaGreatDoor
