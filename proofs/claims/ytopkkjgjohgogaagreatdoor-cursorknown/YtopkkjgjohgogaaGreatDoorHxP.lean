/- The evaluator: regions whose order is the text's. -/
import Derived.Test.YtopkkjgjohgogaaGreatDoorHxO
namespace Hx
open Go

section
variable {P : Program}

theorem FR.put' {ρ : Ren} {F : Fr} {ds : List (Option Nat)} {L : List AV} {a : Act} {d : Option Nat} {v : AV} {u : Value} (hf : FR ρ F ds L a) (hv : VR ρ v u) (hd : ∀ i, d = some i → i < a.tmps.size ∨ VR ρ v undef) : FR ρ F (d :: ds) (v :: L) (a.put d u) := fun t => by
  have h0 := hf t
  rw [co_tmp] at h0 ⊢
  cases d with
  | none =>
    rw [findD_none]
    cases hq : findD ds t with
    | none => rw [hq] at h0; exact h0
    | some k => rw [hq] at h0; exact h0
  | some i =>
    rw [findD_some]
    have hi := hd i rfl
    show VR ρ _ ((a.tmps.setIfInBounds i u).getD t undef)
    by_cases hit : i = t
    · subst hit
      rw [if_pos rfl, Array.getD_eq_getD_getElem?, Array.getElem?_setIfInBounds, if_pos rfl]
      by_cases hs : i < a.tmps.size
      · rw [if_pos hs]; exact hv
      · rw [if_neg hs]
        rcases hi with hi | hi
        · exact absurd hi hs
        · exact hi
    · have : (a.tmps.setIfInBounds i u).getD t undef = a.tmps.getD t undef := by
        rw [Array.getD_eq_getD_getElem?, Array.getD_eq_getD_getElem?, Array.getElem?_setIfInBounds, if_neg hit]
      rw [if_neg hit, this]
      cases hq : findD ds t with
      | none => rw [hq] at h0; exact h0
      | some k => rw [hq] at h0; exact h0

theorem wantedX_some (p : XO × Bool) (F : Fr) (L : List AV) : wantedX (some p) F L = (match ev F L p.1 with | .bool b => some (eqB b p.2) | .tup _ => some false | _ => none) := rfl

theorem wanted_ok' {ρ : Ren} {F : Fr} {ds : List (Option Nat)} {L : List AV} {a : Act} {ops : Array Oper} {o : Oper} {b : Bool} (hf : ∀ j w d, o.guard = some (j, w) → (ops[j]?).bind (·.dst) = some d → VR ρ (ev F L (co ds (.tmp d))) (a.tmps.getD d undef)) (h : wantedX (guardX ops.toList ds o) F L = some b) : Region.wanted o (yielded ops a.tmps) = b := by
  unfold guardX at h
  unfold Region.wanted
  cases hg : o.guard with
  | none =>
    rw [hg] at h
    have : some true = some b := h
    simpa using this
  | some p =>
    obtain ⟨j, wt⟩ := p
    rw [hg] at h
    simp only at h ⊢
    unfold yielded
    rw [show ops.toList[j]? = ops[j]? by simp] at h
    cases hd : (ops[j]?).bind (·.dst) with
    | none =>
      rw [hd] at h
      have : (none : Option Bool) = some b := h
      cases this
    | some d =>
      rw [hd, wantedX_some] at h
      simp only at h
      have h0 := hf j wt d hg hd
      generalize ev F L (co ds (.tmp d)) = z at h h0
      simp only [Option.bind_some]
      cases z <;> simp only [reduceCtorEq, Option.some.injEq] at h
      · subst h
        rename_i c
        cases hq : a.tmps[d]? with
        | none => rw [Array.getD_eq_getD_getElem?, hq] at h0; cases h0
        | some v =>
          rw [Array.getD_eq_getD_getElem?, hq] at h0
          cases h0
          rw [eqB_eq]; rfl
      · subst h
        cases hq : a.tmps[d]? with
        | none => rfl
        | some v =>
          rw [Array.getD_eq_getD_getElem?, hq] at h0
          cases h0
          rfl

theorem wanted_ok {ρ : Ren} {F : Fr} {ds : List (Option Nat)} {L : List AV} {a : Act} {ops : Array Oper} {o : Oper} {b : Bool} (hf : FR ρ F ds L a) (h : wantedX (guardX ops.toList ds o) F L = some b) : Region.wanted o (yielded ops a.tmps) = b :=
  wanted_ok' (fun _ _ d _ _ => hf d) h

theorem compOps_cons (nt : Nat) (all : List Oper) (o : Oper) (l : List Oper) (ds : List (Option Nat)) :
    compOps P nt all (o :: l) ds = ⟨bif (match o.dst with | some d => Nat.blt d nt | none => true) then compOp P ds o else .bad, guardX all ds o⟩ :: compOps P nt all l (o.dst :: ds) := rfl
theorem opsX_cons (call : CallT) (op : XOp) (g : Option (XO × Bool)) (l : List XOper) (F : Fr) (L : List AV) (h : Hp) :
    opsX P call (⟨op, g⟩ :: l) F L h = (match wantedX g F L with | none => .bad [] | some true => opX P call op F L h (fun v h => opsX P call l F (v :: L) h) | some false => opsX P call l F (.tup [] :: L) h) := by
  show Option.rec (motive := fun _ => OR) (.bad []) (fun b => Bool.rec (motive := fun _ => OR) (opsX P call l F (.tup [] :: L) h) (opX P call op F L h (fun v h => opsX P call l F (v :: L) h)) b) (wantedX g F L) = _
  cases wantedX g F L with
  | none => rfl
  | some b => cases b <;> rfl

/-- the frame's other facts -/
structure Fm (nt outs : Nat) (F : Fr) (a : Act) : Prop where
  outs : ∀ t v, F.get t = some v → Nat.testBit outs t = true
  size : nt ≤ a.tmps.size
  defers : a.defers = []

theorem dst_lt {nt : Nat} {o : Oper} {x y : XOp} (h : (bif (match o.dst with | some d => Nat.blt d nt | none => true) then x else y) ≠ y) : (bif (match o.dst with | some d => Nat.blt d nt | none => true) then x else y) = x ∧ ∀ i, o.dst = some i → i < nt := by
  cases hd : o.dst with
  | none => exact ⟨rfl, fun i hi => by cases hi⟩
  | some d =>
    rw [hd] at h
    simp only [blt_nat] at h ⊢
    by_cases hq : d < nt
    · exact ⟨by simp [hq], fun i hi => by cases hi; exact hq⟩
    · exact absurd (by simp [hq]) h

theorem ops_ok {call : CallT} (hcall : CallOk P call) (hng : NoNG P) {nt : Nat} {ops : Array Oper} {F : Fr} {Q : Exit → Act → World → Prop} : ∀ (l : List Oper) (ds : List (Option Nat)) (L : List AV) (h : Hp) (a : Act) (w : World) (ρ : Ren) (L' : List AV) (h' : Hp),
    opsX P call (compOps P nt ops.toList l ds) F L h = .ok L' h' → WR ρ h w → Lim ρ h → Gl ρ h → FR ρ F ds L a → nt ≤ a.tmps.size → a.defers = [] →
    (∀ a' w' ρ', Ext ρ ρ' h h' w w' → FR ρ' F (l.reverse.map (·.dst) ++ ds) L' a' → nt ≤ a'.tmps.size → a'.defers = [] → Q .normal a' w') → wpList P ops Q l a w
  | [], ds, L, h, a, w, ρ, L', h', hr, hw, hl, hg, hf, hs, hd, hQ => by
    have hr : OR.ok L h = .ok L' h' := hr
    simp only [OR.ok.injEq] at hr
    obtain ⟨rfl, rfl⟩ := hr
    exact wpList_nil (hQ a w ρ (Ext.rfl hw hl) hf hs hd)
  | o :: l, ds, L, h, a, w, ρ, L', h', hr, hw, hl, hg, hf, hs, hd, hQ => by
    rw [compOps_cons, opsX_cons] at hr
    have happ : (o :: l).reverse.map (·.dst) ++ ds = l.reverse.map (·.dst) ++ (o.dst :: ds) := by simp
    have next : ∀ (v : AV) (u : Value) (w1 : World) (ρ1 : Ren) (h1 : Hp), VR ρ1 v u → Ext ρ ρ1 h h1 w w1 → (∀ i, o.dst = some i → i < a.tmps.size ∨ VR ρ1 v undef) → opsX P call (compOps P nt ops.toList l (o.dst :: ds)) F (v :: L) h1 = .ok L' h' → wpList P ops Q l (a.put o.dst u) w1 := by
      intro v u w1 ρ1 h1 hv he hi hr1
      refine ops_ok hcall hng l (o.dst :: ds) (v :: L) h1 (a.put o.dst u) w1 ρ1 L' h' hr1 he.wr he.lim (hg.ext hl he) ((hf.mono he.le).put' hv hi) (by rw [put_size]; exact hs) (by rw [put_defers]; exact hd) fun a' w' ρ' he' hf' hs' hd' => ?_
      exact hQ a' w' ρ' (he.trans hl he') (by rw [happ]; exact hf') hs' hd'
    unfold wpList
    cases hq : wantedX (guardX ops.toList ds o) F L with
    | none => rw [hq] at hr; cases hr
    | some b =>
      rw [hq] at hr
      have hwa := wanted_ok hf hq
      cases b with
      | false =>
        simp only at hr
        rw [hwa]
        simp only [Bool.false_eq_true, if_false]
        exact next (.tup []) undef w ρ h tup0 (Ext.rfl hw hl) (fun i _ => .inr tup0) hr
      | true =>
        simp only at hr
        rw [hwa, if_pos rfl]
        refine .inl ?_
        have hne : (bif (match o.dst with | some d => Nat.blt d nt | none => true) then compOp P ds o else .bad) ≠ .bad := fun e => by rw [e] at hr; cases hr
        obtain ⟨e1, e2⟩ := dst_lt hne
        rw [e1] at hr
        obtain ⟨v, h1, g1, g2⟩ := op_ok hcall hng hw hl hg (fun x _ => opnd_ok hg hf x) hr
        exact g2 _ _ fun u w1 ρ1 hv he => next v u w1 ρ1 h1 hv he (fun i hi => .inl (Nat.lt_of_lt_of_le (e2 i hi) hs)) g1

/-! ### what stays in the frame -/
theorem keepL_nil (outs n : Nat) : keepL outs [] n = [] := rfl
theorem keepL_some (outs d : Nat) (ds : List (Option Nat)) (n : Nat) : keepL outs (some d :: ds) n = (bif Nat.testBit outs d then (d, n) :: keepL outs ds (n + 1) else keepL outs ds (n + 1)) := rfl
theorem keepL_none (outs : Nat) (ds : List (Option Nat)) (n : Nat) : keepL outs (none :: ds) n = keepL outs ds (n + 1) := rfl
theorem keepF_nil (L : List AV) (F : Fr) : keepF L [] F = F := rfl
theorem keepF_cons (L : List AV) (p : Nat × Nat) (ks : List (Nat × Nat)) (F : Fr) : keepF L (p :: ks) F = (keepF L ks F).set p.1 (nth L p.2) := rfl

theorem keep_get (outs : Nat) (L : List AV) (F : Fr) (t : Nat) : ∀ (ds : List (Option Nat)) (n : Nat), (keepF L (keepL outs ds n) F).get t = (match findD ds t with | some k => if Nat.testBit outs t then some (nth L (n + k)) else F.get t | none => F.get t)
  | [], n => by rw [keepL_nil, keepF_nil, findD_nil]
  | none :: ds, n => by
    rw [keepL_none, keep_get outs L F t ds (n + 1), findD_none]
    cases findD ds t with
    | none => rfl
    | some k => simp only [Option.map_some]; rw [show n + 1 + k = n + (k + 1) by omega]
  | some d :: ds, n => by
    rw [keepL_some, findD_some]
    have ih := keep_get outs L F t ds (n + 1)
    cases hb : Nat.testBit outs d with
    | true =>
      rw [cond_true, keepF_cons]
      by_cases hdt : d = t
      · subst hdt
        rw [Tr.get_set_same, if_pos rfl]
        simp only [hb, if_true, Nat.add_zero]
      · rw [Tr.get_set_ne _ _ (fun e => hdt e.symm), if_neg hdt, ih]
        cases findD ds t with
        | none => rfl
        | some k => simp only [Option.map_some]; rw [show n + 1 + k = n + (k + 1) by omega]
    | false =>
      rw [cond_false, ih]
      by_cases hdt : d = t
      · subst hdt
        rw [if_pos rfl]
        simp only [hb, Bool.false_eq_true, if_false]
        cases findD ds d <;> rfl
      · rw [if_neg hdt]
        cases findD ds t with
        | none => rfl
        | some k => simp only [Option.map_some]; rw [show n + 1 + k = n + (k + 1) by omega]

theorem keep_ok {ρ : Ren} {nt outs : Nat} {F : Fr} {ds : List (Option Nat)} {L : List AV} {a a' : Act} (hf : FR ρ F ds L a') (hm : Fm nt outs F a) (hs : nt ≤ a'.tmps.size) (hd : a'.defers = []) :
    FR ρ (keepF L (keepL outs ds 0) F) [] [] a' ∧ Fm nt outs (keepF L (keepL outs ds 0) F) a' := by
  refine ⟨fun t => ?_, fun t v hv => ?_, hs, hd⟩
  · have h0 := hf t
    rw [co_tmp] at h0 ⊢
    rw [findD_nil]
    simp only
    rw [ev_f, keep_get]
    cases hq : findD ds t with
    | none => rw [hq] at h0; simp only at h0 ⊢; rw [ev_f] at h0; exact h0
    | some k =>
      rw [hq] at h0
      simp only at h0 ⊢
      cases hb : Nat.testBit outs t with
      | true => simp only [if_true, Nat.zero_add]; exact h0
      | false =>
        simp only [Bool.false_eq_true, if_false]
        cases hg : F.get t with
        | none => exact .bot _
        | some v => have := hm.outs t v hg; rw [hb] at this; cases this
  · rw [keep_get] at hv
    cases hq : findD ds t with
    | none => rw [hq] at hv; exact hm.outs t v hv
    | some k =>
      rw [hq] at hv
      simp only at hv
      cases hb : Nat.testBit outs t with
      | true => rfl
      | false => rw [hb] at hv; simp only [Bool.false_eq_true, if_false] at hv; rw [← hb]; exact hm.outs t v hv

/-- what a piece of code comes to -/
def Done (nt outs : Nat) (r : XR) (ρ : Ren) (h : Hp) (w : World) (e : Exit) (a' : Act) (w' : World) : Prop :=
  (∃ F' h', ((r = .norm F' h' ∧ e = .normal) ∨ (r = .ret F' h' ∧ e = .ret) ∨ ∃ id, r = .exit id F' h' ∧ e = .exit id) ∧ ∃ ρ', Ext ρ ρ' h h' w w' ∧ FR ρ' F' [] [] a' ∧ Fm nt outs F' a')

theorem region_text {call : CallT} (hcall : CallOk P call) (hng : NoNG P) {nt outs id : Nat} {ops : Array Oper} {F F' : Fr} {h h' : Hp} {a : Act} {w : World} {ρ : Ren}
    (hr : regionX P nt outs call ops.toList false id F h = .norm F' h') (hw : WR ρ h w) (hl : Lim ρ h) (hg : Gl ρ h) (hf : FR ρ F [] [] a) (hm : Fm nt outs F a) : (Code.region id ops false).wp P (Done nt outs (.norm F' h') ρ h w) a w := by
  have hr : OR.rec (motive := fun _ => XR) (fun L h => .norm (keepF L (keepL outs (ops.toList.reverse.map (·.dst)) 0) F) h) (fun w => .bad (id :: w)) (opsX P call (compOps P nt ops.toList ops.toList []) F [] h) = .norm F' h' := hr
  cases hq : opsX P call (compOps P nt ops.toList ops.toList []) F [] h with
  | bad y => rw [hq] at hr; cases hr
  | ok L h1 =>
    rw [hq] at hr
    simp only [XR.norm.injEq] at hr
    obtain ⟨rfl, rfl⟩ := hr
    refine wp_region_list (ops_ok hcall hng ops.toList [] [] h a w ρ L h1 hq hw hl hg hf hm.size hm.defers fun a' w' ρ' he hf' hs' hd' => ?_)
    rw [List.append_nil] at hf'
    obtain ⟨k1, k2⟩ := keep_ok hf' hm hs' hd'
    exact ⟨_, _, .inl ⟨rfl, rfl⟩, ρ', he, k1, k2⟩
end
end Hx
