/- The evaluator: strings.Join in its place. -/
import Derived.Test.YtkpemddbabbiaaaGreatDoorHxYg
namespace Hx
open Go

noncomputable section
def strs? (l : List AV) : Option (List (List Nat)) := List.rec (motive := fun _ => Option (List (List Nat))) (some []) (fun v _ ih => match v with
  | .str s => (match ih with | some l => some (s :: l) | none => none)
  | _ => none) l
def joinN (sep : List Nat) (xs : List (List Nat)) : List Nat := List.rec (motive := fun _ => List Nat) [] (fun x r ih => match r with
  | [] => x
  | _ :: _ => x ++ (sep ++ ih)) xs
def joinX (l : List AV) (h : Hp) : Res := match l with
  | [.nils, .str _] => .ok (.str []) h
  | [.sl _ _ 0 _ _, .str _] => .ok (.str []) h
  | [.sl i off (n + 1) _ z, .str sep] => match cellsAt h i off (Nat.succ n) with
    | some cs => match strs? cs with
      | some xs => bif Nat.beq z 1 && Nat.ble n 1000000 && Nat.ble (lenN (joinN sep xs)) 1000000 then .ok (.str (joinN sep xs)) h else .bad [4444441]
      | none => .bad [4444442]
    | none => .bad [4444443]
  | _ => .bad [4444444]
end
end Hx
