/- The evaluator: runs over calls that are known. -/
import Derived.Test.YtkpemddbabbiaaaGreatDoorHxYi
namespace Hx
open Go

noncomputable section
abbrev I (n : Nat) : AV := .int .i64 (.ofNat n)
def tabP (g : Nat) : Nat × KB := (g, .cells (propsZ.map fun c => AV.int .u8 (Int.ofNat c)) false)
def tabQ (g : Nat) : Nat × KB := (g, .cells (powsZ.map fun c => AV.int .u64 (Int.ofNat c)) false)
/-- a run: with those calls known -/
def runK (base : CallT → CallT) (es : List Known) (n : Nat) : CallT := callP (fun ih => plugs es (base ih)) n
end

section
variable {P : Program}
/-- a call of which the truth is said -/
def Fine (P : Program) (e : Known) : Prop := ∀ call, CallOk P call → CallOk P (plugF e call)
theorem fine_of {e : Known} {call1 : CallT} (hcall1 : CallOk P call1) (hst : statK e = true) (hk : knownOk call1 e = true) : Fine P e := fun _ hcall => plugF_ok hcall hcall1 hst hk
def Fines (P : Program) (es : List Known) : Prop := ∀ e ∈ es, Fine P e
theorem Fines.nil : Fines P [] := fun _ h => by cases h
theorem Fines.cons {e : Known} {es : List Known} (h : Fine P e) (t : Fines P es) : Fines P (e :: es) := fun x hx => by
  rcases List.mem_cons.1 hx with rfl | hx
  · exact h
  · exact t x hx
theorem plugs_ok : ∀ {es : List Known}, Fines P es → ∀ {call : CallT}, CallOk P call → CallOk P (plugs es call)
  | [], _, _, h => h
  | e :: es, hf, call, h => hf e (by simp) (plugs es call) (plugs_ok (fun x hx => hf x (by simp [hx])) h)
theorem runK_ok {base : CallT → CallT} (hb : ∀ call, CallOk P call → CallOk P (base call)) {es : List Known} (hf : Fines P es) (n : Nat) : CallOk P (runK base es n) := callP_ok (fun call h => plugs_ok hf (hb call h)) n
end
end Hx
