/- The evaluator: code and calls: the theorem. -/
import Derived.Test.YtopkkjgjohgogaaGreatDoorHxU
import Derived.Control
import Derived.LoopN
namespace Hx
open Go

section
variable {P : Program}

theorem done_mono {nt outs : Nat} {r : XR} {ρ ρ1 : Ren} {h h1 : Hp} {w w1 : World} (hl : Lim ρ h) (e : Ext ρ ρ1 h h1 w w1) {x : Exit} {a : Act} {w' : World} (hd : Done nt outs r ρ1 h1 w1 x a w') : Done nt outs r ρ h w x a w' := by
  obtain ⟨F', h', hx, ρ', e', k1, k2⟩ := hd
  exact ⟨F', h', hx, ρ', e.trans hl e', k1, k2⟩

theorem codeX_skip (nt outs : Nat) (call : CallT) (fuel : Nat) (F : Fr) (h : Hp) : codeX P nt outs call fuel .skip F h = .norm F h := rfl
theorem codeX_region (nt outs : Nat) (call : CallT) (fuel : Nat) (id : Nat) (ops : Array Oper) (draw : Bool) (F : Fr) (h : Hp) : codeX P nt outs call fuel (.region id ops draw) F h = regionX P nt outs call ops.toList draw id F h := rfl
theorem codeX_seq (nt outs : Nat) (call : CallT) (fuel : Nat) (x y : Code) (F : Fr) (h : Hp) : codeX P nt outs call fuel (.seq x y) F h = (match codeX P nt outs call fuel x F h with | .norm F h => codeX P nt outs call fuel y F h | .exit id F h => .exit id F h | .ret F h => .ret F h | .bad w => .bad w) := by
  show XR.rec (motive := fun _ => XR) (fun F h => codeX P nt outs call fuel y F h) (fun id F h => .exit id F h) (fun F h => .ret F h) (fun w => .bad w) (codeX P nt outs call fuel x F h) = _
  cases codeX P nt outs call fuel x F h <;> rfl
theorem codeX_cond (nt outs : Nat) (call : CallT) (fuel : Nat) (c : Operand) (x y : Code) (F : Fr) (h : Hp) : codeX P nt outs call fuel (.cond c x y) F h = (match ev F [] (co [] c) with | .bool true => codeX P nt outs call fuel x F h | .bool false => codeX P nt outs call fuel y F h | _ => .bad [1000000]) := by
  show (match ev F [] (co [] c) with
      | .bool b => Bool.rec (motive := fun _ => XR) (codeX P nt outs call fuel y F h) (codeX P nt outs call fuel x F h) b
      | _ => .bad [1000000]) = _
  cases ev F [] (co [] c) <;> try rfl
  rename_i b
  cases b <;> rfl
theorem codeX_block (nt outs : Nat) (call : CallT) (fuel : Nat) (id : Nat) (x : Code) (F : Fr) (h : Hp) : codeX P nt outs call fuel (.block id x) F h = (match codeX P nt outs call fuel x F h with | .norm F h => .norm F h | .exit j F h => (bif Nat.beq j id then .norm F h else .exit j F h) | .ret F h => .ret F h | .bad w => .bad w) := by
  show XR.rec (motive := fun _ => XR) (fun F h => .norm F h) (fun j F h => bif Nat.beq j id then .norm F h else .exit j F h) (fun F h => .ret F h) (fun w => .bad w) (codeX P nt outs call fuel x F h) = _
  cases codeX P nt outs call fuel x F h <;> rfl
theorem codeX_loop (nt outs : Nat) (call : CallT) (fuel : Nat) (x : Code) (F : Fr) (h : Hp) : codeX P nt outs call fuel (.loop x) F h = iterX (codeX P nt outs call fuel x) fuel F h := rfl
theorem codeX_exit (nt outs : Nat) (call : CallT) (fuel : Nat) (id : Nat) (F : Fr) (h : Hp) : codeX P nt outs call fuel (.exit id) F h = .exit id F h := rfl
theorem codeX_ret (nt outs : Nat) (call : CallT) (fuel : Nat) (F : Fr) (h : Hp) : codeX P nt outs call fuel .ret F h = .ret F h := rfl
theorem iterX_succ (body : Fr → Hp → XR) (n : Nat) (F : Fr) (h : Hp) : iterX body (n + 1) F h = (match body F h with | .norm F h => iterX body n F h | .exit id F h => .exit id F h | .ret F h => .ret F h | .bad w => .bad w) := by
  show XR.rec (motive := fun _ => XR) (fun F h => iterX body n F h) (fun id F h => .exit id F h) (fun F h => .ret F h) (fun w => .bad w) (body F h) = _
  cases body F h <;> rfl

def good (r : XR) : Prop := ∀ w, r ≠ .bad w

/-- what a piece of code is asked -/
def CodeOk (P : Program) (nt outs : Nat) (c : Code) (x : Fr → Hp → XR) : Prop := ∀ (F : Fr) (h : Hp) (a : Act) (w : World) (ρ : Ren), good (x F h) → WR ρ h w → Lim ρ h → Gl ρ h → FR ρ F [] [] a → Fm nt outs F a → c.wp P (Done nt outs (x F h) ρ h w) a w

theorem loop_ok {nt outs : Nat} {c : Code} {body : Fr → Hp → XR} (hb : CodeOk P nt outs c body) : ∀ (n : Nat) (F : Fr) (h : Hp) (a : Act) (w : World) (ρ : Ren), good (iterX body n F h) → WR ρ h w → Lim ρ h → Gl ρ h → FR ρ F [] [] a → Fm nt outs F a →
    Code.rounds P c (Done nt outs (iterX body n F h) ρ h w) n a w
  | 0, F, h, a, w, ρ, hgood, _, _, _, _, _ => absurd rfl (hgood [])
  | n + 1, F, h, a, w, ρ, hgood, hw, hl, hg, hf, hm => by
    rw [rounds_succ]
    rw [iterX_succ] at hgood ⊢
    cases hx : body F h with
    | bad y => rw [hx] at hgood; exact absurd rfl (hgood y)
    | exit id F1 h1 =>
      refine wp_mono (hb F h a w ρ (by rw [hx]; intro y e; cases e) hw hl hg hf hm) fun e a' w' hd => ?_
      rw [hx] at hd
      obtain ⟨F', h', hor, rest⟩ := hd
      rcases hor with ⟨q, _⟩ | ⟨q, _⟩ | ⟨j, q, rfl⟩
      · cases q
      · cases q
      · exact ⟨F', h', .inr (.inr ⟨j, q, rfl⟩), rest⟩
    | ret F1 h1 =>
      refine wp_mono (hb F h a w ρ (by rw [hx]; intro y e; cases e) hw hl hg hf hm) fun e a' w' hd => ?_
      rw [hx] at hd
      obtain ⟨F', h', hor, rest⟩ := hd
      rcases hor with ⟨q, _⟩ | ⟨q, rfl⟩ | ⟨j, q, _⟩
      · cases q
      · exact ⟨F', h', .inr (.inl ⟨q, rfl⟩), rest⟩
      · cases q
    | norm F1 h1 =>
      rw [hx] at hgood
      refine wp_mono (hb F h a w ρ (by rw [hx]; intro y e; cases e) hw hl hg hf hm) fun e a' w' hd => ?_
      rw [hx] at hd
      obtain ⟨F', h', hor, ρ', he, hf', hm'⟩ := hd
      rcases hor with ⟨q, rfl⟩ | ⟨q, _⟩ | ⟨j, q, _⟩
      · simp only [XR.norm.injEq] at q
        obtain ⟨rfl, rfl⟩ := q
        have ih := loop_ok hb n F1 h1 a' w' ρ' hgood he.wr he.lim (hg.ext hl he) hf' hm'
        have mono : ∀ (k : Nat) (a : Act) (w : World) {Q Q' : Exit → Act → World → Prop}, (∀ e a w, Q e a w → Q' e a w) → Code.rounds P c Q k a w → Code.rounds P c Q' k a w := by
          intro k
          induction k with
          | zero => intro a w Q Q' _ h; exact h
          | succ k ihk =>
            intro a w Q Q' hq h
            refine wp_mono h fun e a w he => ?_
            cases e <;> first | exact hq _ _ _ he | exact ihk _ _ hq he
        exact mono n a' w' (fun e a w hd => done_mono hl he hd) ih
      · cases q
      · cases q

theorem code_ok {call : CallT} (hmx : P.follows .mixedOrders = true) (hcall : CallOk P call) (hng : NoNG P) {nt outs fuel : Nat} : ∀ c : Code, CodeOk P nt outs c (codeX P nt outs call fuel c) := by
  intro c
  induction c with
  | skip => intro F h a w ρ _ hw hl _ hf hm; exact wp_skip ⟨F, h, .inl ⟨rfl, rfl⟩, ρ, Ext.rfl hw hl, hf, hm⟩
  | region id ops draw =>
    intro F h a w ρ hgood hw hl hg hf hm
    rw [codeX_region] at hgood ⊢
    have hnorm : ∃ F' h', regionX P nt outs call ops.toList draw id F h = .norm F' h' := by
      cases draw with
      | false =>
        have e : regionX P nt outs call ops.toList false id F h = OR.rec (motive := fun _ => XR) (fun L h => .norm (keepF L (keepL outs (ops.toList.reverse.map (·.dst)) 0) F) h) (fun w => .bad (id :: w)) (opsX P call (compOps P nt ops.toList ops.toList []) F [] h) := rfl
        rw [e] at hgood ⊢
        cases hq : opsX P call (compOps P nt ops.toList ops.toList []) F [] h with
        | ok L h1 => exact ⟨_, _, rfl⟩
        | bad y => rw [hq] at hgood; exact absurd rfl (hgood _)
      | true =>
        have e : regionX P nt outs call ops.toList true id F h = (match planD P nt ops.toList with
          | some gs => rdX F (keepL outs (ops.toList.reverse.map (·.dst)) 0) gs (opsG P call (compOps P nt ops.toList ops.toList []) F [] h [h]) id
          | none => .bad [id, 3333333]) := rfl
        rw [e] at hgood ⊢
        cases hpd : planD P nt ops.toList with
        | none => rw [hpd] at hgood; exact absurd rfl (hgood _)
        | some gs =>
          rw [hpd] at hgood
          simp only at hgood ⊢
          unfold rdX at hgood ⊢
          cases hq : opsG P call (compOps P nt ops.toList ops.toList []) F [] h [h] with
          | bad y => rw [hq] at hgood; exact absurd rfl (hgood _)
          | ok L h1 G =>
            rw [hq] at hgood
            simp only at hgood ⊢
            cases hgo : gapsOk F L G gs with
            | false => rw [hgo] at hgood; exact absurd rfl (hgood _)
            | true => exact ⟨_, _, rfl⟩
    obtain ⟨F', h', hr⟩ := hnorm
    rw [hr]
    cases draw with
    | false => exact region_text hcall hng hr hw hl hg hf hm
    | true => exact region_draws hmx hcall hng hr hw hl hg hf hm
  | seq x y ihx ihy =>
    intro F h a w ρ hgood hw hl hg hf hm
    rw [codeX_seq] at hgood ⊢
    refine wp_seq ?_
    cases hx : codeX P nt outs call fuel x F h with
    | bad q => rw [hx] at hgood; exact absurd rfl (hgood q)
    | norm F1 h1 =>
      rw [hx] at hgood
      refine wp_mono (ihx F h a w ρ (by rw [hx]; intro y e; cases e) hw hl hg hf hm) fun e a' w' hd => ?_
      rw [hx] at hd
      obtain ⟨F', h', hor, ρ', he, hf', hm'⟩ := hd
      rcases hor with ⟨q, rfl⟩ | ⟨q, _⟩ | ⟨j, q, _⟩
      · simp only [XR.norm.injEq] at q
        obtain ⟨rfl, rfl⟩ := q
        exact wp_mono (ihy F1 h1 a' w' ρ' hgood he.wr he.lim (hg.ext hl he) hf' hm') fun e a w hd => done_mono hl he hd
      · cases q
      · cases q
    | exit id F1 h1 =>
      refine wp_mono (ihx F h a w ρ (by rw [hx]; intro y e; cases e) hw hl hg hf hm) fun e a' w' hd => ?_
      rw [hx] at hd
      obtain ⟨F', h', hor, rest⟩ := hd
      rcases hor with ⟨q, _⟩ | ⟨q, _⟩ | ⟨j, q, rfl⟩
      · cases q
      · cases q
      · exact ⟨F', h', .inr (.inr ⟨j, q, rfl⟩), rest⟩
    | ret F1 h1 =>
      refine wp_mono (ihx F h a w ρ (by rw [hx]; intro y e; cases e) hw hl hg hf hm) fun e a' w' hd => ?_
      rw [hx] at hd
      obtain ⟨F', h', hor, rest⟩ := hd
      rcases hor with ⟨q, _⟩ | ⟨q, rfl⟩ | ⟨j, q, _⟩
      · cases q
      · exact ⟨F', h', .inr (.inl ⟨q, rfl⟩), rest⟩
      · cases q
  | cond c x y ihx ihy =>
    intro F h a w ρ hgood hw hl hg hf hm
    rw [codeX_cond] at hgood ⊢
    have h1 := opnd_ok hg hf c
    generalize ev F [] (co [] c) = z at hgood h1
    cases z with
    | bool b =>
      cases b with
      | true =>
        generalize hq : a.eval c = q at h1
        cases h1
        exact wp_cond_true hq (ihx F h a w ρ hgood hw hl hg hf hm)
      | false =>
        generalize hq : a.eval c = q at h1
        cases h1
        exact wp_cond_false hq (ihy F h a w ρ hgood hw hl hg hf hm)
    | _ => exact absurd rfl (hgood _)
  | block id x ih =>
    intro F h a w ρ hgood hw hl hg hf hm
    rw [codeX_block] at hgood ⊢
    refine wp_block ?_
    cases hx : codeX P nt outs call fuel x F h with
    | bad q => rw [hx] at hgood; exact absurd rfl (hgood q)
    | norm F1 h1 =>
      refine wp_mono (ih F h a w ρ (by rw [hx]; intro y e; cases e) hw hl hg hf hm) fun e a' w' hd => ?_
      rw [hx] at hd
      obtain ⟨F', h', hor, rest⟩ := hd
      rcases hor with ⟨q, rfl⟩ | ⟨q, _⟩ | ⟨j, q, _⟩
      · exact ⟨F', h', .inl ⟨q, rfl⟩, rest⟩
      · cases q
      · cases q
    | exit j F1 h1 =>
      refine wp_mono (ih F h a w ρ (by rw [hx]; intro y e; cases e) hw hl hg hf hm) fun e a' w' hd => ?_
      rw [hx] at hd
      obtain ⟨F', h', hor, rest⟩ := hd
      rcases hor with ⟨q, _⟩ | ⟨q, _⟩ | ⟨j', q, rfl⟩
      · cases q
      · cases q
      · simp only [XR.exit.injEq] at q
        obtain ⟨rfl, rfl, rfl⟩ := q
        show (if j = id then Done nt outs (bif Nat.beq j id then XR.norm F1 h1 else XR.exit j F1 h1) ρ h w .normal a' w' else Done nt outs (bif Nat.beq j id then XR.norm F1 h1 else XR.exit j F1 h1) ρ h w (.exit j) a' w')
        rw [beq_nat]
        by_cases hji : j = id
        · rw [if_pos hji]
          simp only [hji, decide_true, cond_true]
          exact ⟨F1, h1, .inl ⟨rfl, rfl⟩, rest⟩
        · rw [if_neg hji]
          simp only [hji, decide_false, cond_false]
          exact ⟨F1, h1, .inr (.inr ⟨j, rfl, rfl⟩), rest⟩
    | ret F1 h1 =>
      refine wp_mono (ih F h a w ρ (by rw [hx]; intro y e; cases e) hw hl hg hf hm) fun e a' w' hd => ?_
      rw [hx] at hd
      obtain ⟨F', h', hor, rest⟩ := hd
      rcases hor with ⟨q, _⟩ | ⟨q, rfl⟩ | ⟨j, q, _⟩
      · cases q
      · exact ⟨F', h', .inr (.inl ⟨q, rfl⟩), rest⟩
      · cases q
  | loop x ih =>
    intro F h a w ρ hgood hw hl hg hf hm
    rw [codeX_loop] at hgood ⊢
    exact wp_loop_rounds fuel (loop_ok ih fuel F h a w ρ hgood hw hl hg hf hm)
  | exit id => intro F h a w ρ _ hw hl _ hf hm; exact wp_exit ⟨F, h, .inr (.inr ⟨id, rfl, rfl⟩), ρ, Ext.rfl hw hl, hf, hm⟩
  | ret => intro F h a w ρ _ hw hl _ hf hm; exact wp_ret ⟨F, h, .inr (.inl ⟨rfl, rfl⟩), ρ, Ext.rfl hw hl, hf, hm⟩
  | _ => intro F h a w ρ hgood; exact absurd rfl (hgood _)
end
end Hx
