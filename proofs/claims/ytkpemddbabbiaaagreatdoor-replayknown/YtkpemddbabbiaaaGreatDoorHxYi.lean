/- The evaluator: ty.Sub's Unify and copied, whatever the order of their maps; strings.Join. -/
import Derived.Test.YtkpemddbabbiaaaGreatDoorHxYh
namespace Hx
open Go

noncomputable section
/-- (*ty.Sub).Unify, c: its code: the rounds over the map change nothing -/
def xUnify (P : Program) (nt outs fuel : Nat) (c : Code) (call : CallT) : Fr → Hp → XR :=
  seqX (codeX P nt outs call fuel (cA c)) (seqX (codeX P nt outs call fuel (cA (cB c))) (seqX (codeX P nt outs call fuel (cA (cB (cB c)))) (seqX (codeX P nt outs call fuel (cA (cB (cB (cB c)))))
    (seqX (seqX (codeX P nt outs call fuel (cA (cA (cB (cB (cB (cB c)))))))
      (anyU outs 31 34 35 9 [0, 7, 31] 7 (codeX P nt outs call fuel (cB (cBlk (cB (cB (cLoop (cBlk (cB (cA (cB (cB (cB (cB c)))))))))))))
        (codeX P nt outs call fuel (cB (cA (cB (cB (cB (cB c)))))))))
      (codeX P nt outs call fuel (cB (cB (cB (cB (cB c))))))))))
/-- (*ty.Sub).copied -/
def xCopied (P : Program) (nt outs fuel : Nat) (c : Code) (call : CallT) : Fr → Hp → XR :=
  seqX (codeX P nt outs call fuel (cA c)) (seqX (codeX P nt outs call fuel (cA (cB c)))
    (seqX (seqX (codeX P nt outs call fuel (cA (cA (cB (cB c)))))
      (anyC 16 3 4 [0, 3, 16] [19, 20, 21, 5, 4, 22, 23, 24, 17, 18] (codeX P nt outs call fuel (cB (cA (cB (cB c)))))))
      (codeX P nt outs call fuel (cB (cB (cB c))))))

def plugU (P : Program) (fuel fU fC fJ : Nat) (fnU fnC : Func) (call : CallT) : CallT := fun f l h =>
  bif Nat.beq f fU then resZ P fnU (xUnify P fnU.ntmps (outsF fnU) fuel (fnBody fnU) call) l h else
  bif Nat.beq f fC then resZ P fnC (xCopied P fnC.ntmps (outsF fnC) fuel (fnBody fnC) call) l h else
  bif Nat.beq f fJ then joinX l h else stepX P fuel call f l h
def plugs (es : List Known) (call : CallT) : CallT := List.rec (motive := fun _ => CallT) call (fun e _ ih => plugF e ih) es
end
end Hx
