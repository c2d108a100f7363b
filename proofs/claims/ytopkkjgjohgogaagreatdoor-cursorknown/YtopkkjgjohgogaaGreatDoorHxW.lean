/- The evaluator: calls: the theorem. -/
import Derived.Test.YtopkkjgjohgogaaGreatDoorHxV
namespace Hx
open Go

section
variable {P : Program}

theorem resOne_ok {ρ : Ren} {F : Fr} {h : Hp} {w : World} {a : Act} (hw : WR ρ h w) (hf : FR ρ F [] [] a) {r : ResultVar} {v : AV} (hr : resOne P F h r = some v) :
    ∃ u, (match r with | .tmp t => pure (a.tmps.getD t undef) | .cell b t => (do loadVar t (← asAddr (a.tmps.getD b undef)) : Sem Value) : Sem Value).run P w = .ok u w ∧ VR ρ v u := by
  cases r with
  | tmp t =>
    have hr : some (ev F [] (.f t)) = some v := hr
    simp only [Option.some.injEq] at hr; subst hr
    have := hf t
    rw [co_tmp, findD_nil] at this
    exact ⟨_, rfl, this⟩
  | cell b t =>
    have h0 := hf b
    rw [co_tmp, findD_nil] at h0
    simp only at h0
    unfold resOne at hr
    simp only at hr
    cases hs : szT P t with
    | none => rw [hs] at hr; cases hr
    | some n =>
      rw [hs] at hr
      simp only at hr
      have fin : ∀ vc ad, a.tmps.getD b undef = .pointer (some ad) → (loadVar t ad).run P w = .ok vc w → VR ρ v vc → ∃ u, (do loadVar t (← asAddr (a.tmps.getD b undef)) : Sem Value).run P w = .ok u w ∧ VR ρ v u := fun vc ad h1 h2 h3 => ⟨vc, by rw [h1]; simp only [asAddr, Sem.run_bind, Sem.run_pure, Result.andThen_ok]; exact h2, h3⟩
      split at hr
      · rename_i fs hu
        obtain ⟨vc, ad, h1, h2, h3⟩ := loadn_ok (P := P) hw hs (by rw [isAgg_ok hu]) h0 hr
        exact fin vc ad h1 h2 h3
      · rename_i k e hu
        obtain ⟨vc, ad, h1, h2, h3⟩ := loadn_ok (P := P) hw hs (by rw [isAgg_ok hu]) h0 hr
        exact fin vc ad h1 h2 h3
      · rename_i d q1 q2 hu
        obtain ⟨vc, ad, h1, h2, h3⟩ := load1_ok (P := P) (t := t) hw (by
          rw [isAgg_ok hu]
          cases d <;> first
            | rfl
            | exact (q1 _ rfl).elim
            | exact (q2 _ _ rfl).elim) h0 hr
        exact fin vc ad h1 h2 h3
      · cases hr

theorem resMany_ok {ρ : Ren} {F : Fr} {h : Hp} {w : World} {a : Act} (hw : WR ρ h w) (hf : FR ρ F [] [] a) (g : ResultVar → Sem Value) (hg1 : ∀ t, g (.tmp t) = pure (a.tmps.getD t undef)) (hg2 : ∀ b t, g (.cell b t) = (do loadVar t (← asAddr (a.tmps.getD b undef)) : Sem Value)) : ∀ (l : List ResultVar) (vs : List AV), resMany P F h l = some vs →
    ∃ us : List Value, (l.mapM g).run P w = .ok us w ∧ VRs ρ vs us
  | [], vs, hr => by
    have hr : some [] = some vs := hr
    simp only [Option.some.injEq] at hr; subst hr
    exact ⟨[], rfl, .nil⟩
  | r :: l, vs, hr => by
    have hr : (match resOne P F h r with
      | some v => match resMany P F h l with
        | some l => some (v :: l)
        | none => none
      | none => none) = some vs := hr
    cases h1 : resOne P F h r with
    | none => rw [h1] at hr; cases hr
    | some v =>
      cases h2 : resMany P F h l with
      | none => rw [h1, h2] at hr; cases hr
      | some vs' =>
        rw [h1, h2] at hr
        simp only [Option.some.injEq] at hr; subst hr
        obtain ⟨u, g1, g2⟩ := resOne_ok hw hf h1
        have g1 : (g r).run P w = .ok u w := by
          cases r with
          | tmp t => rw [hg1]; exact g1
          | cell b t => rw [hg2]; exact g1
        obtain ⟨us, g3, g4⟩ := resMany_ok hw hf g hg1 hg2 l vs' h2
        refine ⟨u :: us, ?_, .cons _ _ _ _ g2 g4⟩
        rw [List.mapM_cons]
        simp only [Sem.run_bind, g1, Result.andThen_ok, g3, Sem.run_pure]

theorem results_ok {ρ : Ren} {F : Fr} {h h' : Hp} {w : World} {a : Act} (hw : WR ρ h w) (hf : FR ρ F [] [] a) {fn : Func} {v : AV} (hr : resX P fn.results.toList F h = .ok v h') : h' = h ∧ ∃ u, (results fn a.tmps).run P w = .ok u w ∧ VR ρ v u := by
  unfold resX at hr
  have key : ∀ (g : ResultVar → Sem Value), (∀ t, g (.tmp t) = pure (a.tmps.getD t undef)) → (∀ b t, g (.cell b t) = (do loadVar t (← asAddr (a.tmps.getD b undef)) : Sem Value)) → ∀ vs, resMany P F h fn.results.toList = some vs →
      ∃ us : List Value, VRs ρ vs us ∧ (do let vs ← fn.results.mapM g; pure (if h : vs.size = 1 then vs[0] else .tuple vs) : Sem Value).run P w = .ok (if h : us.toArray.size = 1 then us.toArray[0] else .tuple us.toArray) w := fun g hg1 hg2 vs hvs => by
    obtain ⟨us, h1, h2⟩ := resMany_ok hw hf g hg1 hg2 _ vs hvs
    refine ⟨us, h2, ?_⟩
    rw [Array.mapM_eq_mapM_toList]
    simp only [Sem.run_bind, Sem.run_map, h1]
    rfl
  split at hr
  · rename_i u hm
    simp only [Res.ok.injEq] at hr
    obtain ⟨rfl, rfl⟩ := hr
    have hres : ∃ us : List Value, VRs ρ [u] us ∧ (results fn a.tmps).run P w = .ok (if h : us.toArray.size = 1 then us.toArray[0] else .tuple us.toArray) w := by
      unfold results
      refine key _ ?_ ?_ _ hm
      · intro t; rfl
      · intro b t; rfl
    obtain ⟨us, h2, h1⟩ := hres
    refine ⟨rfl, ?_⟩
    cases h2 with
    | cons _ u _ us' h3 h4 =>
      cases h4
      exact ⟨u, h1, h3⟩
  · rename_i l hne hm
    simp only [Res.ok.injEq] at hr
    obtain ⟨rfl, rfl⟩ := hr
    have hres : ∃ us : List Value, VRs ρ l us ∧ (results fn a.tmps).run P w = .ok (if h : us.toArray.size = 1 then us.toArray[0] else .tuple us.toArray) w := by
      unfold results
      refine key _ ?_ ?_ _ hm
      · intro t; rfl
      · intro b t; rfl
    obtain ⟨us, h2, h1⟩ := hres
    have hlen : us.toArray.size ≠ 1 := fun e => by
      have : l.length = 1 := by rw [h2.length]; simpa using e
      match l, this with
      | [x], _ => exact hne x rfl
    rw [dif_neg hlen] at h1
    exact ⟨rfl, .tuple us.toArray, h1, .tup _ _ (by simpa using h2)⟩
  · cases hr

theorem parF_get (outs : Nat) (t : Nat) : ∀ (l : List AV) (n : Nat), (parF outs l n).get t = if n ≤ t ∧ Nat.testBit outs t = true then l[t - n]? else none
  | [], n => by
    show (Tr.nil : Tr AV).get t = _
    rw [Tr.get_nil]
    split <;> simp
  | v :: l, n => by
    have e : parF outs (v :: l) n = (match Nat.testBit outs n with | true => (parF outs l (n + 1)).set n v | false => parF outs l (n + 1)) := by
      show Bool.rec (motive := fun _ => Fr) (parF outs l (n + 1)) ((parF outs l (n + 1)).set n v) (Nat.testBit outs n) = _
      cases Nat.testBit outs n <;> rfl
    rw [e]
    have ih := parF_get outs t l (n + 1)
    by_cases hnt : t = n
    · subst hnt
      cases hb : Nat.testBit outs t with
      | true => simp only; rw [Tr.get_set_same, if_pos (by simp)]; simp
      | false => simp only; rw [ih, if_neg (by omega), if_neg (by simp)]
    · have hr : (if n + 1 ≤ t ∧ Nat.testBit outs t = true then l[t - (n + 1)]? else none) = if n ≤ t ∧ Nat.testBit outs t = true then (v :: l)[t - n]? else none := by
        by_cases hlt : n ≤ t
        · obtain ⟨d, rfl⟩ : ∃ d, t = n + 1 + d := ⟨t - (n + 1), by omega⟩
          by_cases hb : Nat.testBit outs (n + 1 + d) = true
          · rw [if_pos ⟨by omega, hb⟩, if_pos ⟨hlt, hb⟩, show n + 1 + d - (n + 1) = d by omega, show n + 1 + d - n = d + 1 by omega]; simp
          · rw [if_neg (fun e => hb e.2), if_neg (fun e => hb e.2)]
        · rw [if_neg (by omega), if_neg (by omega)]
      cases Nat.testBit outs n with
      | true => simp only; rw [Tr.get_set_ne _ _ hnt, ih, hr]
      | false => simp only; rw [ih, hr]

theorem stepX_eq (fuel : Nat) (call : CallT) (f : Nat) (l : List AV) (h : Hp) : stepX P fuel call f l h = (match P.funcs[f]? with
    | some fn => match fn.body with
      | some c => XR.rec (motive := fun _ => Res) (fun F h => resX P fn.results.toList F h) (fun _ _ _ => .bad [f]) (fun F h => resX P fn.results.toList F h) (fun w => .bad (f :: w)) (codeX P fn.ntmps (outsF fn) call fuel c (parF (outsF fn) l 0) h)
      | none => .bad [f]
    | none => .bad [f]) := rfl

theorem step_ok (hmx : P.follows .mixedOrders = true) (hng : NoNG P) (fuel : Nat) {call : CallT} (hcall : CallOk P call) : CallOk P (stepX P fuel call) :=
  fun f l h v h' hr ρ w args ha hw hl hg => by
    rw [stepX_eq] at hr
    cases hfn : P.funcs[f]? with
    | none => rw [hfn] at hr; cases hr
    | some fn =>
      rw [hfn] at hr
      simp only at hr
      cases hb : fn.body with
      | none => rw [hb] at hr; cases hr
      | some c =>
        rw [hb] at hr
        simp only at hr
        refine ⟨⟨fn, c, rfl, hb⟩, ?_⟩
        have hrun : ∀ F1 h1, resX P fn.results.toList F1 h1 = .ok v h' → ∀ e a1 w1, (e = .normal ∨ e = .ret) → (∃ ρ', Ext ρ ρ' h h1 w w1 ∧ FR ρ' F1 [] [] a1 ∧ Fm fn.ntmps (outsF fn) F1 a1) →
            bodyPost P fn (fun e w' => ∃ u ρ', e = .returned u ∧ VR ρ' v u ∧ Ext ρ ρ' h h' w w') e a1 w1 := fun F1 h1 hres e a1 w1 he ⟨ρ', hext, hfr, hfm⟩ => by
          obtain ⟨rfl, u, g1, g2⟩ := results_ok hext.wr hfr hres
          rcases he with rfl | rfl <;> exact ⟨hfm.defers, u, g1, u, ρ', rfl, g2, hext⟩
        refine calls_of_wp hfn hb (wp_mono (code_ok hmx hcall hng c (parF (outsF fn) l 0) h _ w ρ (fun y hy => by rw [hy] at hr; cases hr) hw hl hg (fun t => ?_) ⟨fun t v hv => ?_, ?_, rfl⟩) fun e a1 w1 hd => ?_)
        · rw [co_tmp, findD_nil]
          simp only
          rw [ev_f, parF_get]
          by_cases hq : 0 ≤ t ∧ Nat.testBit (outsF fn) t = true
          · rw [if_pos hq, Nat.sub_zero]
            cases hlt : l[t]? with
            | none => exact .bot _
            | some x =>
              obtain ⟨u, g1, g2⟩ := ha.get hlt
              have : (args ++ Array.replicate (fn.ntmps - args.size) undef).getD t undef = u := by
                have hts : t < args.size := by
                  have := (List.getElem?_eq_some_iff.1 g1).1
                  simpa using this
                rw [Array.getD_eq_getD_getElem?, Array.getElem?_append_left hts]
                rw [Array.getElem?_toList] at g1
                rw [g1]; rfl
              rw [this]; exact g2
          · rw [if_neg hq]; exact .bot _
        · rw [parF_get] at hv
          by_cases hq : 0 ≤ t ∧ Nat.testBit (outsF fn) t = true
          · exact hq.2
          · rw [if_neg hq] at hv; cases hv
        · simp; omega
        · obtain ⟨F1, h1, hor, hrest⟩ := hd
          rcases hor with ⟨q, he⟩ | ⟨q, he⟩ | ⟨j, q, he⟩
          · rw [q] at hr; exact hrun F1 h1 hr e a1 w1 (.inl he) hrest
          · rw [q] at hr; exact hrun F1 h1 hr e a1 w1 (.inr he) hrest
          · rw [q] at hr; cases hr

theorem call_ok (hmx : P.follows .mixedOrders = true) (hng : NoNG P) (fuel : Nat) : ∀ n, CallOk P (callX P fuel n)
  | 0 => fun f l h v h' hr => by cases hr
  | n + 1 => step_ok hmx hng fuel (call_ok hmx hng fuel n)
end
end Hx
