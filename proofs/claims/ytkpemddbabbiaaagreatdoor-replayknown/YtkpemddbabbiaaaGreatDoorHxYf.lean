/- The evaluator: functions in whose place others stand. -/
import Derived.Test.YtkpemddbabbiaaaGreatDoorHxYe
namespace Hx
open Go

section
variable {P : Program}

/-- what is asked of what stands in a function's place -/
def OvOk (P : Program) (f : Nat) (g : List AV → Hp → Res) : Prop := ∀ (l : List AV) (h : Hp) (v : AV) (h' : Hp), g l h = .ok v h' → ∀ (ρ : Ren) (w : World) (args : Array Value), VRs ρ l args.toList → WR ρ h w → Lim ρ h → Gl ρ h →
  (∃ fn c, P.funcs[f]? = some fn ∧ fn.body = some c) ∧ Calls P f args w fun e w' => ∃ u ρ', e = .returned u ∧ VR ρ' v u ∧ Ext ρ ρ' h h' w w'

noncomputable def resZ (P : Program) (fn : Func) (x : Fr → Hp → XR) (l : List AV) (h : Hp) : Res :=
  XR.rec (motive := fun _ => Res) (fun F h => resX P fn.results.toList F h) (fun _ _ _ => .bad [5555555]) (fun F h => resX P fn.results.toList F h) (fun w => .bad (5555556 :: w)) (x (parF (outsF fn) l (nat_lit 0)) h)

/-- a function by another run of its code -/
theorem fun_ok {f : Nat} {fn : Func} {c : Code} {x : Fr → Hp → XR} (hfn : P.funcs[f]? = some fn) (hb : fn.body = some c) (hx : CodeOk P fn.ntmps (outsF fn) c x) : OvOk P f (resZ P fn x) :=
  fun l h v h' hr ρ w args ha hw hl hg => by
    unfold resZ at hr
    refine ⟨⟨fn, c, hfn, hb⟩, ?_⟩
    have hrun : ∀ F1 h1, resX P fn.results.toList F1 h1 = .ok v h' → ∀ e a1 w1, (e = .normal ∨ e = .ret) → (∃ ρ', Ext ρ ρ' h h1 w w1 ∧ FR ρ' F1 [] [] a1 ∧ Fm fn.ntmps (outsF fn) F1 a1) →
        bodyPost P fn (fun e w' => ∃ u ρ', e = .returned u ∧ VR ρ' v u ∧ Ext ρ ρ' h h' w w') e a1 w1 := fun F1 h1 hres e a1 w1 he ⟨ρ', hext, hfr, hfm⟩ => by
      obtain ⟨rfl, u, g1, g2⟩ := results_ok hext.wr hfr hres
      rcases he with rfl | rfl <;> exact ⟨hfm.defers, u, g1, u, ρ', rfl, g2, hext⟩
    refine calls_of_wp hfn hb (wp_mono (hx (parF (outsF fn) l 0) h _ w ρ (fun y hy => by rw [hy] at hr; cases hr) hw hl hg (fun t => ?_) ⟨fun t v hv => ?_, ?_, rfl⟩) fun e a1 w1 hd => ?_)
    · rw [co_tmp, findD_nil]
      simp only
      rw [ev_f, parF_get]
      by_cases hq : 0 ≤ t ∧ Nat.testBit (outsF fn) t = true
      · rw [if_pos hq, Nat.sub_zero]
        cases hlt : l[t]? with
        | none => exact .bot _
        | some x =>
          obtain ⟨u, g1, g2⟩ := ha.get hlt
          have : (args ++ Array.replicate (fn.ntmps - args.size) undef).getD t undef = u := by
            have hts : t < args.size := by
              have := (List.getElem?_eq_some_iff.1 g1).1
              simpa using this
            rw [Array.getD_eq_getD_getElem?, Array.getElem?_append_left hts]
            rw [Array.getElem?_toList] at g1
            rw [g1]; rfl
          rw [this]; exact g2
      · rw [if_neg hq]; exact .bot _
    · rw [parF_get] at hv
      by_cases hq : 0 ≤ t ∧ Nat.testBit (outsF fn) t = true
      · exact hq.2
      · rw [if_neg hq] at hv; cases hv
    · simp; omega
    · obtain ⟨F1, h1, hor, hrest⟩ := hd
      rcases hor with ⟨q, he⟩ | ⟨q, he⟩ | ⟨j, q, he⟩
      · rw [q] at hr; exact hrun F1 h1 hr e a1 w1 (.inl he) hrest
      · rw [q] at hr; exact hrun F1 h1 hr e a1 w1 (.inr he) hrest
      · rw [q] at hr; cases hr

/-- one function's place -/
noncomputable def ovX (f : Nat) (g : List AV → Hp → Res) (call : CallT) : CallT := fun k l h => bif Nat.beq k f then g l h else call k l h
theorem ovX_ok {f : Nat} {g : List AV → Hp → Res} {call : CallT} (hg : OvOk P f g) (hcall : CallOk P call) : CallOk P (ovX f g call) := fun k l h v h' hv ρ w args ha hw hl hgl => by
  unfold ovX at hv
  cases hb : Nat.beq k f with
  | false => rw [hb] at hv; exact hcall k l h v h' hv ρ w args ha hw hl hgl
  | true =>
    rw [hb] at hv
    have := beqN_true hb
    subst this
    exact hg l h v h' hv ρ w args ha hw hl hgl

/-- a call that hands back what is said and leaves all that was there: as a contract of the kit tells it -/
theorem ov_of_contract {f : Nat} {g : List AV → Hp → Res} (hfn : ∃ fn c, P.funcs[f]? = some fn ∧ fn.body = some c)
    (h : ∀ (l : List AV) (h0 : Hp) (v : AV) (h' : Hp), g l h0 = .ok v h' → h' = h0 ∧ ∀ (ρ : Ren) (w : World) (args : Array Value), VRs ρ l args.toList → WR ρ h0 w → ∃ u, VR ρ v u ∧ Calls P f args w fun e w' => e = .returned u ∧ w.heap.size ≤ w'.heap.size ∧ (∀ b, b < w.heap.size → w'.heap[b]? = w.heap[b]?) ∧ w'.tape = w.tape ∧ w'.os = w.os ∧ w'.output = w.output) : OvOk P f g :=
  fun l h0 v h' hv ρ w args ha hw hl _ => by
    obtain ⟨rfl, k⟩ := h l h0 v h' hv
    obtain ⟨u, k1, k2⟩ := k ρ w args ha hw
    exact ⟨hfn, k2.mono fun e w' ⟨he, q1, q2, q3⟩ => ⟨u, ρ, he, k1, Ext.drop hw hl q1 q2 q3⟩⟩
end

/-! ### parts of code -/
def cA : Code → Code | .seq a _ => a | c => c
def cB : Code → Code | .seq _ b => b | c => c
def cBlk : Code → Code | .block _ b => b | c => c
def cLoop : Code → Code | .loop b => b | c => c
def fnBody (fn : Func) : Code := match fn.body with | some c => c | none => .skip
end Hx
