/- The evaluator: one operation, whatever it is. -/
import Derived.Test.YtopkkjgjohgogaaGreatDoorHxN
import Derived.Calls
import Derived.Orders
import Derived.Tactics
namespace Hx
open Go

section
variable {P : Program}

def Gl (ρ : Ren) (h : Hp) : Prop := ∀ g, g < 8 → (∃ n, ρ g = .live g n) ∧ ¬ Own h g

theorem Gl.ext {ρ ρ' : Ren} {h h' : Hp} {w w' : World} (hg : Gl ρ h) (hl : Lim ρ h) (e : Ext ρ ρ' h h' w w') : Gl ρ' h' := fun g hg' => by
  obtain ⟨⟨n, hn⟩, ho⟩ := hg g hg'
  exact ⟨⟨n, e.kp g g n hn ho⟩, fun q => ho (e.ow g (hl.lt hn) q)⟩

/-- slots: what was written in the region (the newest first), else the frame -/
def FR (ρ : Ren) (F : Fr) (ds : List (Option Nat)) (L : List AV) (a : Act) : Prop := ∀ t, VR ρ (ev F L (co ds (.tmp t))) (a.tmps.getD t undef)

theorem FR.mono {ρ ρ' : Ren} {F : Fr} {ds : List (Option Nat)} {L : List AV} {a : Act} (hle : ρ.le ρ') (h : FR ρ F ds L a) : FR ρ' F ds L a := fun t => (h t).mono hle

theorem findD_nil (t : Nat) : findD [] t = none := rfl
theorem findD_some (d : Nat) (ds : List (Option Nat)) (t : Nat) : findD (some d :: ds) t = if d = t then some 0 else (findD ds t).map (· + 1) := by
  show (bif Nat.beq d t then some 0 else (match findD ds t with | some k => some (Nat.succ k) | none => none)) = _
  rw [beq_nat]
  by_cases h : d = t
  · simp [h]
  · simp only [h, decide_false, cond_false, if_false]
    cases findD ds t <;> rfl
theorem findD_none (ds : List (Option Nat)) (t : Nat) : findD (none :: ds) t = (findD ds t).map (· + 1) := by
  show (match findD ds t with | some k => some (Nat.succ k) | none => none) = _
  cases findD ds t <;> rfl

theorem co_tmp (ds : List (Option Nat)) (t : Nat) : co ds (.tmp t) = (match findD ds t with | some k => .l k | none => .f t) := rfl
theorem ev_l (F : Fr) (L : List AV) (k : Nat) : ev F L (.l k) = nth L k := rfl
theorem ev_f (F : Fr) (L : List AV) (t : Nat) : ev F L (.f t) = (match F.get t with | some v => v | none => .bot) := by
  show Option.rec (motive := fun _ => AV) .bot (fun v => v) (F.get t) = _
  cases F.get t <;> rfl

theorem opnd_ok {ρ : Ren} {h : Hp} {F : Fr} {ds : List (Option Nat)} {L : List AV} {a : Act} (hg : Gl ρ h) (hf : FR ρ F ds L a) (x : Operand) : VR ρ (ev F L (co ds x)) (a.eval x) := by
  cases x with
  | tmp t => exact hf t
  | const v => exact cv_ok ρ v
  | global g =>
    show VR ρ (ev F L (bif Nat.blt g 8 then .c (.ptr g 0) else .c .bot)) _
    rw [blt_nat]
    by_cases h8 : g < 8
    · obtain ⟨⟨n, hn⟩, _⟩ := hg g h8
      simp only [h8, decide_true, cond_true]
      exact .ptr _ _ _ _ hn
    · simp only [h8, decide_false, cond_false]
      exact .bot _
  | func f => exact .func _ _ _ .nil

theorem put_size (a : Act) (d : Option Nat) (u : Value) : (a.put d u).tmps.size = a.tmps.size := by
  cases d with
  | none => rfl
  | some d => exact Array.size_setIfInBounds
theorem put_defers (a : Act) (d : Option Nat) (u : Value) : (a.put d u).defers = a.defers := by cases d <;> rfl

theorem FR.put {ρ : Ren} {F : Fr} {ds : List (Option Nat)} {L : List AV} {a : Act} {d : Option Nat} {v : AV} {u : Value} {nt : Nat} (hf : FR ρ F ds L a) (hv : VR ρ v u) (hd : ∀ i, d = some i → i < nt) (hs : nt ≤ a.tmps.size) : FR ρ F (d :: ds) (v :: L) (a.put d u) := fun t => by
  have h0 := hf t
  rw [co_tmp] at h0 ⊢
  cases d with
  | none =>
    rw [findD_none]
    cases hq : findD ds t with
    | none => rw [hq] at h0; exact h0
    | some k => rw [hq] at h0; exact h0
  | some i =>
    rw [findD_some]
    have hi := hd i rfl
    show VR ρ _ ((a.tmps.setIfInBounds i u).getD t undef)
    by_cases hit : i = t
    · subst hit
      have : (a.tmps.setIfInBounds i u).getD i undef = u := by
        rw [Array.getD_eq_getD_getElem?, Array.getElem?_setIfInBounds, if_pos rfl, if_pos (by omega)]; rfl
      rw [if_pos rfl, this]
      exact hv
    · have : (a.tmps.setIfInBounds i u).getD t undef = a.tmps.getD t undef := by
        rw [Array.getD_eq_getD_getElem?, Array.getD_eq_getD_getElem?, Array.getElem?_setIfInBounds, if_neg hit]
      rw [if_neg hit, this]
      cases hq : findD ds t with
      | none => rw [hq] at h0; exact h0
      | some k => rw [hq] at h0; exact h0

/-- what a call does -/
def CallOk (P : Program) (call : CallT) : Prop := ∀ (f : Nat) (l : List AV) (h : Hp) (v : AV) (h' : Hp), call f l h = .ok v h' → ∀ (ρ : Ren) (w : World) (args : Array Value), VRs ρ l args.toList → WR ρ h w → Lim ρ h → Gl ρ h →
  (∃ fn c, P.funcs[f]? = some fn ∧ fn.body = some c) ∧ Calls P f args w fun e w' => ∃ u ρ', e = .returned u ∧ VR ρ' v u ∧ Ext ρ ρ' h h' w w'

/-- no function of this name -/
def NoNG (P : Program) : Prop := ∀ (f : Nat) fn, P.funcs[f]? = some fn → (fn.name == "runtime.NumGoroutine") = false

theorem callFunc_ok (hng : NoNG P) {f : Nat} {fn : Func} {c : Code} (hf : P.funcs[f]? = some fn) (hb : fn.body = some c) (args : Array Value) (w : World) : (callFunc f args).run P w = .ok (.enter f args) w := by
  unfold callFunc
  simp only [Sem.run_bind, run_program, Result.andThen_ok, hf]
  simp only [hng f fn hf, hb, Option.isNone_some, Bool.false_eq_true, if_false]
  rfl

theorem enter_ok {call : CallT} (hcall : CallOk P call) (hng : NoNG P) {o : Oper} {a : Act} {w : World} {ρ : Ren} {h h' : Hp} {f : Nat} {l : List AV} {v : AV} {args : Array Value}
    (hr : call f l h = .ok v h') (ha : VRs ρ l args.toList) (hw : WR ρ h w) (hl : Lim ρ h) (hg : Gl ρ h) (hex : ∀ fn c, P.funcs[f]? = some fn → fn.body = some c → (execOp a.eval o).run P w = (callFunc f args).run P w)
    (K : Act → World → Prop) (Q : Exit → Act → World → Prop) (hk : ∀ u w' ρ', VR ρ' v u → Ext ρ ρ' h h' w w' → K (a.put o.dst u) w') : o.wp P a w K Q := by
  obtain ⟨⟨fn, c, hf, hb⟩, hc⟩ := hcall f l h v h' hr ρ w args ha hw hl hg
  unfold Oper.wp
  rw [hex fn c hf hb, callFunc_ok hng hf hb, Oper.upon_enter]
  refine hc.mono fun e w' ⟨u, ρ', he, h1, h2⟩ => ?_
  subst he
  exact hk u w' ρ' h1 h2

theorem run_res {s : Sem Next} {w w' : World} {nx : Next} {u : Value} {o : Oper} {a : Act} (hr : s.run P w = .ok nx w') (hs : execOp a.eval o = s) (hp : Puts nx u) (K : Act → World → Prop) (Q : Exit → Act → World → Prop) (hk : K (a.put o.dst u) w') : o.wp P a w K Q := by
  subst hs
  unfold Oper.wp
  rw [hr]
  rcases hp with rfl | ⟨rfl, rfl⟩
  · exact hk
  · exact hk

def isCallX (x : XOp) : Bool := match x with
  | .call _ _ | .cav _ _ | .inv _ _ _ => true
  | _ => false

theorem bad_call {b : Builtin} {ts : List Nat} {as : List Operand} {ds : List (Option Nat)} : isCallX (compBuiltin P b ts as ds) = false := by
  unfold compBuiltin
  simp only [Bool.cond_eq_ite]
  (repeat' split) <;> rfl

theorem is_call {ds : List (Option Nat)} {o : Oper} (h : isCallX (compOp P ds o) = true) : ∃ c, o.op = .call c := by
  obtain ⟨dst, op, type, pos, after, guard⟩ := o
  cases op <;> simp only [compOp, Bool.cond_eq_ite] at h
  case call c => exact ⟨c, rfl⟩
  case build t ps => exfalso; unfold compBuild at h; simp only [Bool.cond_eq_ite] at h; (repeat' split at h) <;> cases h
  case buildSlice t n ps => exfalso; unfold compBslice at h; simp only [Bool.cond_eq_ite] at h; (repeat' split at h) <;> cases h
  case makeFunc fn xs ys => exfalso; cases fn <;> simp only at h <;> (repeat' split at h) <;> cases h
  case makeMap t r => exfalso; cases r <;> simp only at h <;> (repeat' split at h) <;> cases h
  all_goals (exfalso; (repeat' split at h) <;> cases h)

/-- an interface's method -/
theorem methX_ok {t : Nat} {m : String} {g : Nat} (h : methX P t m = some g) (v : Value) (n : Nat) (w : World) : (method (n + 1) t v m).run P w = .ok (g, v) w := by
  unfold methX at h
  split at h
  · rename_i i hi
    split at h
    · rename_i q hq
      split at h
      · rename_i f d hp hf hu
        simp only [Option.some.injEq] at h; subst h
        unfold method
        simp only [Sem.run_bind, typeInfo, run_program, Result.andThen_ok, hi, Sem.run_pure, hq, hp, follow, hf]
        unfold receiverAt
        simp only [Sem.run_bind, run_underlying hu, Result.andThen_ok]
        rfl
      · cases h
    · cases h
  · cases h

theorem op_ok {call : CallT} (hcall : CallOk P call) (hng : NoNG P) {o : Oper} {ds : List (Option Nat)} {F : Fr} {L L' : List AV} {a : Act} {w : World} {ρ : Ren} {h hh : Hp} {k : KT} (hw : WR ρ h w) (hl : Lim ρ h) (hg : Gl ρ h) (hx : ∀ x ∈ o.op.operands, VR ρ (ev F L (co ds x)) (a.eval x))
    (hr : opX P call (compOp P ds o) F L h k = .ok L' hh) :
    ∃ v h1, k v h1 = .ok L' hh ∧ ∀ (K : Act → World → Prop) (Q : Exit → Act → World → Prop), (∀ u w' ρ', VR ρ' v u → Ext ρ ρ' h h1 w w' → K (a.put o.dst u) w') → o.wp P a w K Q := by
  cases hc : compOp P ds o with
  | p pop =>
    rw [hc] at hr
    have hr : Option.rec (motive := fun _ => OR) (.bad []) (fun v => k v h) (popX pop F L) = .ok L' hh := hr
    cases hp : popX pop F L with
    | none => rw [hp] at hr; cases hr
    | some v =>
      rw [hp] at hr
      obtain ⟨u, h1, h2⟩ := sound_p (w := w) hc hx hp
      exact ⟨v, h, hr, fun K Q hk => run_res h1 rfl (.inl rfl) K Q (hk u w ρ h2 (Ext.rfl hw hl))⟩
  | l lop =>
    rw [hc] at hr
    have hr : Option.rec (motive := fun _ => OR) (.bad []) (fun v => k v h) (lopX lop F L h) = .ok L' hh := hr
    cases hp : lopX lop F L h with
    | none => rw [hp] at hr; cases hr
    | some v =>
      rw [hp] at hr
      obtain ⟨u, h1, h2⟩ := sound_l hw hc hx hp
      exact ⟨v, h, hr, fun K Q hk => run_res h1 rfl (.inl rfl) K Q (hk u w ρ h2 (Ext.rfl hw hl))⟩
  | a aop =>
    rw [hc] at hr
    have hr : Option.rec (motive := fun _ => OR) (.bad []) (fun p => Prod.rec (motive := fun _ => OR) (fun b m => k (m.val h.next) (h.new b)) p) (aopX aop F L) = .ok L' hh := hr
    cases hp : aopX aop F L with
    | none => rw [hp] at hr; cases hr
    | some bm =>
      obtain ⟨B, m⟩ := bm
      rw [hp] at hr
      have hr : k (m.val h.next) (h.new B) = .ok L' hh := hr
      obtain ⟨obj, vc, w', n, h1, h2, h3, h4, h5, h6, h7⟩ := sound_a (w := w) hc hx hp
      refine ⟨_, _, hr, fun K Q hk => run_res h1 rfl (.inl rfl) K Q (hk vc w' _ (h6 _ _ (Ren.le_upd (hl _ (Nat.le_refl _)) _) (Ren.upd_same _ _ _)) (Ext.new hw hl ⟨h2, h3, h4, h5⟩ fun ρ' hle _ _ => h7 ρ' _ _ hle))⟩
  | e eop =>
    rw [hc] at hr
    have hr : Res.rec (motive := fun _ => OR) (fun v h => k v h) (fun w => .bad w) (eopX eop F L h) = .ok L' hh := hr
    cases hp : eopX eop F L h with
    | bad y => rw [hp] at hr; cases hr
    | ok v h1 =>
      rw [hp] at hr
      obtain ⟨nx, vc, w', ρ', g1, g2, g3, g4⟩ := sound_e hw hl hc hx hp
      exact ⟨v, h1, hr, fun K Q hk => run_res g1 rfl g2 K Q (hk vc w' ρ' g3 g4)⟩
  | bad => rw [hc] at hr; cases hr
  | call f xs =>
    obtain ⟨c, ho⟩ := is_call (P := P) (ds := ds) (o := o) (by rw [hc]; rfl)
    obtain ⟨dst, op, type, pos, after, guard⟩ := o
    simp only at ho
    subst ho
    rw [hc] at hr
    have hr : Res.rec (motive := fun _ => OR) (fun v h => k v h) (fun w => .bad w) (call f (evs F L xs) h) = .ok L' hh := hr
    obtain ⟨callee, args, argTypes⟩ := c
    simp only [compOp] at hc
    cases callee with
    | invoke r m => simp only [reduceCtorEq] at hc
    | builtin b => have := bad_call (P := P) (b := b) (ts := argTypes.toList) (as := args.toList) (ds := ds); simp only at hc; rw [hc] at this; cases this
    | value y =>
      cases y <;> simp only [reduceCtorEq, XOp.call.injEq] at hc
      obtain ⟨hff, rfl⟩ := hc
      have hff := hff.symm
      subst hff
      cases hp : call f (evs F L (args.toList.map (co ds))) h with
      | bad y => rw [hp] at hr; cases hr
      | ok v h1 =>
        rw [hp] at hr
        have ha := evs_ok (ρ := ρ) (F := F) (L := L) (ds := ds) (f := a.eval) (xs := args.toList) (fun x h => hx x (by simp only [Op.operands, Call.operands]; simp [Array.mem_toList_iff.1 h]))
        refine ⟨v, h1, hr, fun K Q hk => enter_ok hcall hng (args := args.map a.eval) hp (by simpa using ha) hw hl hg (fun fn c _ _ => ?_) K Q hk⟩
        simp only [execOp, resolve, Act.eval, Deferred.ofValue, Sem.run_bind, Sem.run_pure, Result.andThen_ok, invoke, Array.empty_append, Array.append_empty]
  | cav y xs =>
    obtain ⟨c, ho⟩ := is_call (P := P) (ds := ds) (o := o) (by rw [hc]; rfl)
    obtain ⟨dst, op, type, pos, after, guard⟩ := o
    simp only at ho
    subst ho
    rw [hc] at hr
    have hr : (fun z : AV => (match z with
      | .func g caps => Res.rec (motive := fun _ => OR) (fun v h => k v h) (fun w => .bad w) (call g (evs F L xs ++ caps) h)
      | _ => .bad [] : OR)) (ev F L y) = .ok L' hh := hr
    obtain ⟨callee, args, argTypes⟩ := c
    simp only [compOp] at hc
    cases callee with
    | invoke r m => simp only [reduceCtorEq] at hc
    | builtin b => have := bad_call (P := P) (b := b) (ts := argTypes.toList) (as := args.toList) (ds := ds); simp only at hc; rw [hc] at this; cases this
    | value y' =>
      have hcc : y = co ds y' ∧ xs = args.toList.map (co ds) := by
        cases y' <;> simp only [reduceCtorEq, XOp.cav.injEq] at hc <;> exact ⟨hc.1.symm, hc.2.symm⟩
      obtain ⟨rfl, rfl⟩ := hcc
      have h1 := hx y' (by simp [Op.operands, Call.operands])
      simp only at hr
      generalize ev F L (co ds y') = z at hr h1
      generalize hq : a.eval y' = q at h1
      cases z <;> simp only [reduceCtorEq] at hr
      rename_i g caps
      cases h1 with
      | func _ _ captured hcap =>
        cases hp : call g (evs F L (args.toList.map (co ds)) ++ caps) h with
        | bad y => rw [hp] at hr; cases hr
        | ok v h1 =>
          rw [hp] at hr
          have ha := evs_ok (ρ := ρ) (F := F) (L := L) (ds := ds) (f := a.eval) (xs := args.toList) (fun x h => hx x (by simp only [Op.operands, Call.operands]; simp [Array.mem_toList_iff.1 h]))
          refine ⟨v, h1, hr, fun K Q hk => enter_ok hcall hng (args := args.map a.eval ++ captured) hp (by simpa using ha.append hcap) hw hl hg (fun fn c _ _ => ?_) K Q hk⟩
          simp only [execOp, resolve, hq, Deferred.ofValue, Sem.run_bind, Sem.run_pure, Result.andThen_ok, invoke, Array.empty_append]
  | inv y m xs =>
    obtain ⟨c, ho⟩ := is_call (P := P) (ds := ds) (o := o) (by rw [hc]; rfl)
    obtain ⟨dst, op, type, pos, after, guard⟩ := o
    simp only at ho
    subst ho
    rw [hc] at hr
    have hr : (fun z : AV => (match z with
      | .ifc t v => (fun r : Option Nat => (match r with
        | some g => Res.rec (motive := fun _ => OR) (fun v h => k v h) (fun w => .bad w) (call g (v :: evs F L xs) h)
        | none => .bad [] : OR)) (methX P t m)
      | _ => .bad [] : OR)) (ev F L y) = .ok L' hh := hr
    obtain ⟨callee, args, argTypes⟩ := c
    simp only [compOp] at hc
    cases callee with
    | value y' => cases y' <;> simp only [reduceCtorEq] at hc
    | builtin b => have := bad_call (P := P) (b := b) (ts := argTypes.toList) (as := args.toList) (ds := ds); simp only at hc; rw [hc] at this; cases this
    | invoke r m' =>
      simp only [XOp.inv.injEq] at hc
      obtain ⟨rfl, rfl, rfl⟩ := hc
      have h1 := hx r (by simp [Op.operands, Call.operands])
      simp only at hr
      generalize ev F L (co ds r) = z at hr h1
      generalize hq : a.eval r = q at h1
      cases z <;> simp only [reduceCtorEq] at hr
      rename_i t z
      cases h1 with
      | ifc _ _ u hu =>
        cases hm : methX P t m' with
        | none => rw [hm] at hr; cases hr
        | some g =>
          rw [hm] at hr
          simp only at hr
          cases hp : call g (z :: evs F L (args.toList.map (co ds))) h with
          | bad y => rw [hp] at hr; cases hr
          | ok v h1 =>
            rw [hp] at hr
            have ha := evs_ok (ρ := ρ) (F := F) (L := L) (ds := ds) (f := a.eval) (xs := args.toList) (fun x h => hx x (by simp only [Op.operands, Call.operands]; simp [Array.mem_toList_iff.1 h]))
            refine ⟨v, h1, hr, fun K Q hk => enter_ok hcall hng (args := #[u] ++ args.map a.eval) hp (by simpa using VRs.cons _ _ _ _ hu ha) hw hl hg (fun fn c _ _ => ?_) K Q hk⟩
            have hmm := methX_ok hm u (P.types.size + Made.depth - 1) w
            have hpos : P.types.size + Made.depth - 1 + 1 = P.types.size + Made.depth := by
              have : 0 < Made.depth := by decide
              omega
            rw [hpos] at hmm
            simp only [execOp, resolve, hq, Sem.run_bind, Sem.run_pure, Result.andThen_ok, invoke]
            have e0 : (#[Value.iface t u] ++ args.map a.eval)[0]? = some (.iface t u) := by
              rw [Array.getElem?_append_left (Nat.succ_pos 0)]; rfl
            have e1 : (#[Value.iface t u] ++ args.map a.eval).extract 1 (#[Value.iface t u] ++ args.map a.eval).size = args.map a.eval := by
              apply Array.ext'
              simp
              exact List.take_of_length_le (by simp)
            simp only [e0, e1, callMethod, Sem.run_bind, run_program, Result.andThen_ok, hmm]
end
end Hx
