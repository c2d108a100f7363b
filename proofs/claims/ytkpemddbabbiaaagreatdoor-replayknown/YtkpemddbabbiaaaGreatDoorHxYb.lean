/- The evaluator: a loop over a map's entries, in whatever order. -/
import Derived.Test.YtkpemddbabbiaaaGreatDoorHxYa
namespace Hx
open Go

section
variable {P : Program}

theorem wpList_one {ops : Array Oper} {Q : Exit → Act → World → Prop} {o : Oper} {rest : List Oper} {a : Act} {w : World} (hg : o.guard = none) (h : o.wp P a w (wpList P ops Q rest) Q) : wpList P ops Q (o :: rest) a w := by
  unfold wpList
  have : Region.wanted o (yielded ops a.tmps) = true := by unfold Region.wanted; rw [hg]
  rw [this, if_pos rfl]
  exact .inl h

theorem getD_put {a : Act} {d t : Nat} {u : Value} (hd : d < a.tmps.size) : (a.put (some d) u).tmps.getD t undef = if d = t then u else a.tmps.getD t undef := by
  show (a.tmps.setIfInBounds d u).getD t undef = _
  by_cases hit : d = t
  · subst hit
    rw [Array.getD_eq_getD_getElem?, Array.getElem?_setIfInBounds, if_pos rfl, if_pos hd, if_pos rfl]; rfl
  · rw [Array.getD_eq_getD_getElem?, Array.getElem?_setIfInBounds, if_neg hit, if_neg hit, ← Array.getD_eq_getD_getElem?]

/-- a slot of which the frame says nothing is written -/
theorem FR.other {ρ : Ren} {F : Fr} {a : Act} {d : Nat} {u : Value} (hf : FR ρ F [] [] a) (hd : d < a.tmps.size) (hn : F.get d = none) : FR ρ F [] [] (a.put (some d) u) := fun t => by
  have h0 := hf t
  rw [co_tmp, findD_nil] at h0 ⊢
  simp only at h0 ⊢
  rw [getD_put hd]
  by_cases h : d = t
  · subst h
    rw [ev_f, hn]
    exact .bot _
  · rw [if_neg h]; exact h0

theorem Fm.put {nt outs : Nat} {F : Fr} {a : Act} (hm : Fm nt outs F a) (d : Option Nat) (u : Value) : Fm nt outs F (a.put d u) :=
  ⟨hm.outs, by rw [put_size]; exact hm.size, by rw [put_defers]; exact hm.defers⟩

/-- how a loop over a map looks -/
def RangeShape (c : Code) (it tn tc id : Nat) (B : Code) : Prop := ∃ rid ops o1 o2, c = .seq (.region rid ops false) (.seq (.cond (.tmp tc) .skip (.exit id)) B) ∧ ops.toList = [o1, o2] ∧ o1.op = .next (.tmp it) false ∧ o1.dst = some tn ∧ o1.guard = none ∧ o2.op = .extract (.tmp tn) 0 ∧ o2.dst = some tc ∧ o2.guard = none

/-- what a loop's piece comes to -/
def Ends (nt outs : Nat) (x : Exit) (J : Fr → Hp → Prop) (ρ : Ren) (h : Hp) (w : World) (e : Exit) (a' : Act) (w' : World) : Prop :=
  e = x ∧ ∃ F' h' ρ', J F' h' ∧ Ext ρ ρ' h h' w w' ∧ FR ρ' F' [] [] a' ∧ Fm nt outs F' a'

theorem rounds_mono {c : Code} {Q Q' : Exit → Act → World → Prop} (hq : ∀ e a w, Q e a w → Q' e a w) : ∀ (k : Nat) (a : Act) (w : World), Code.rounds P c Q k a w → Code.rounds P c Q' k a w
  | 0, _, _, h => h
  | k + 1, a, w, h => by
    rw [rounds_succ] at h ⊢
    refine wp_mono h fun e a w he => ?_
    cases e <;> first | exact hq _ _ _ he | exact rounds_mono hq k _ _ he

theorem loop_any {nt outs i r n it tn tc id : Nat} {c B : Code} {es : List (AV × AV)} (hc : RangeShape c it tn tc id B) (hn1 : tn < nt) (hn2 : tc < nt) (hne : tn ≠ tc) (h2 : 2 ≤ es.length) (J : List (AV × AV) → Fr → Hp → Prop)
    (hJ : ∀ left F h, J left F h → F.get it = some (.ptr i 0) ∧ F.get tn = none ∧ F.get tc = none ∧ (∃ cur, h.t.get i = some (.miter (some (r, n)) left cur)) ∧ h.t.get r = some (.map es n))
    (hB : ∀ left x left' F h, J left F h → left.Perm (x :: left') → ∀ (a : Act) (w : World) (ρ : Ren), WR ρ (h.put i (.miter (some (r, n)) left' (some x))) w → Lim ρ (h.put i (.miter (some (r, n)) left' (some x))) → Gl ρ (h.put i (.miter (some (r, n)) left' (some x))) → FR ρ F [] [] a → Fm nt outs F a →
      B.wp P (Ends nt outs .normal (J left') ρ (h.put i (.miter (some (r, n)) left' (some x))) w) a w) :
    ∀ (k : Nat) (left : List (AV × AV)) (F : Fr) (h : Hp) (a : Act) (w : World) (ρ : Ren), left.length = k → J left F h → WR ρ h w → Lim ρ h → Gl ρ h → FR ρ F [] [] a → Fm nt outs F a →
      Code.rounds P c (Ends nt outs (.exit id) (J []) ρ h w) (k + 1) a w := by
  intro k
  induction k with
  | zero =>
    intro left F h a w ρ hk hj hw hl hg hf hm
    have : left = [] := List.eq_nil_of_length_eq_zero hk
    subst this
    obtain ⟨j1, j2, j3, ⟨cur, j4⟩, j5⟩ := hJ _ _ _ hj
    obtain ⟨rid, ops, ⟨d1, op1, ty1, pos1, af1, g1⟩, ⟨d2, op2, ty2, pos2, af2, g2⟩, rfl, hops, q1, q2, q3, q4, q5, q6⟩ := hc
    simp only at q1 q2 q3 q4 q5 q6
    subst q1 q2 q3 q4 q5 q6
    have hx : VR ρ (.ptr i 0) (a.eval (.tmp it)) := by
      have := hf it
      rw [co_tmp, findD_nil] at this
      simp only at this
      rw [ev_f, j1] at this
      exact this
    rcases nxt_any (P := P) (ty := ty1) hw hl j4 j5 h2 hx with ⟨_, hrun⟩ | ⟨x, left', _, _, _, hp, _⟩
    · rw [rounds_succ]
      refine wp_seq (wp_region_list ?_)
      rw [hops]
      refine wpList_one rfl (run_res (u := .tuple #[.bool false]) (exec_v hrun) rfl (.inl rfl) _ _ ?_)
      have e1 : (a.put (some tn) (.tuple #[.bool false])).eval (.tmp tn) = .tuple #[.bool false] := by
        show (a.put (some tn) _).tmps.getD tn undef = _
        rw [getD_put (Nat.lt_of_lt_of_le hn1 hm.size), if_pos rfl]
      refine wpList_one rfl (run_res (u := .bool false) (w' := w) (s := execOp (a.put (some tn) (.tuple #[.bool false])).eval ⟨some tc, .extract (.tmp tn) 0, ty2, pos2, af2, none⟩) (nx := .value (.bool false)) ?_ rfl (.inl rfl) _ _ ?_)
      · simp only [execOp, e1]
        exact exec_v (by unfold Instr.extract; rfl)
      · refine wpList_nil ?_
        show (Code.seq (.cond (.tmp tc) .skip (.exit id)) B).wp P _ _ _
        refine wp_seq (wp_cond_false ?_ (wp_exit ?_))
        · show (((a.put (some tn) _).put (some tc) _).tmps.getD tc undef) = _
          rw [getD_put (by rw [put_size]; exact Nat.lt_of_lt_of_le hn2 hm.size), if_pos rfl]
        · exact ⟨rfl, F, h, ρ, hj, Ext.rfl hw hl, (hf.other (Nat.lt_of_lt_of_le hn1 hm.size) j2).other (by rw [put_size]; exact Nat.lt_of_lt_of_le hn2 hm.size) j3, (hm.put _ _).put _ _⟩
    · exact absurd hp.length_eq (by simp)
  | succ k ih =>
    intro left F h a w ρ hk hj hw hl hg hf hm
    have hc0 := hc
    obtain ⟨j1, j2, j3, ⟨cur, j4⟩, j5⟩ := hJ _ _ _ hj
    obtain ⟨rid, ops, ⟨d1, op1, ty1, pos1, af1, g1⟩, ⟨d2, op2, ty2, pos2, af2, g2⟩, rfl, hops, q1, q2, q3, q4, q5, q6⟩ := hc
    simp only at q1 q2 q3 q4 q5 q6
    subst q1 q2 q3 q4 q5 q6
    have hx : VR ρ (.ptr i 0) (a.eval (.tmp it)) := by
      have := hf it
      rw [co_tmp, findD_nil] at this
      simp only at this
      rw [ev_f, j1] at this
      exact this
    rcases nxt_any (P := P) (ty := ty1) hw hl j4 j5 h2 hx with ⟨hz, _⟩ | ⟨x, left', kv, vv, w1, hp, hrun, _, _, hE⟩
    · subst hz; simp at hk
    · rw [rounds_succ]
      refine wp_seq (wp_region_list ?_)
      rw [hops]
      refine wpList_one rfl (run_res (u := .tuple #[.bool true, kv, vv]) (exec_v hrun) rfl (.inl rfl) _ _ ?_)
      have e1 : (a.put (some tn) (.tuple #[.bool true, kv, vv])).eval (.tmp tn) = .tuple #[.bool true, kv, vv] := by
        show (a.put (some tn) _).tmps.getD tn undef = _
        rw [getD_put (Nat.lt_of_lt_of_le hn1 hm.size), if_pos rfl]
      refine wpList_one rfl (run_res (u := .bool true) (w' := w1) (s := execOp (a.put (some tn) (.tuple #[.bool true, kv, vv])).eval ⟨some tc, .extract (.tmp tn) 0, ty2, pos2, af2, none⟩) (nx := .value (.bool true)) ?_ rfl (.inl rfl) _ _ ?_)
      · simp only [execOp, e1]
        exact exec_v (by unfold Instr.extract; rfl)
      · refine wpList_nil ?_
        show (Code.seq (.cond (.tmp tc) .skip (.exit id)) B).wp P _ _ _
        refine wp_seq (wp_cond_true ?_ (wp_skip ?_))
        · show (((a.put (some tn) _).put (some tc) _).tmps.getD tc undef) = _
          rw [getD_put (by rw [put_size]; exact Nat.lt_of_lt_of_le hn2 hm.size), if_pos rfl]
        · show B.wp P _ _ _
          have hf1 := (hf.other (u := .tuple #[.bool true, kv, vv]) (Nat.lt_of_lt_of_le hn1 hm.size) j2).other (u := .bool true) (by rw [put_size]; exact Nat.lt_of_lt_of_le hn2 hm.size) j3
          have hm1 := (hm.put (some tn) (.tuple #[.bool true, kv, vv])).put (some tc) (.bool true)
          refine wp_mono (hB left x left' F h hj hp _ w1 ρ hE.wr hE.lim (hg.ext hl hE) hf1 hm1) ?_
          rintro e a' w' ⟨rfl, F', h', ρ', hj', hE', hf', hm'⟩
          have hlen : left'.length = k := by have := hp.length_eq; simp at this; omega
          have hEE := hE.trans hl hE'
          refine rounds_mono ?_ _ _ _ (ih left' F' h' a' w' ρ' hlen hj' hE'.wr hE'.lim (hg.ext hl hEE) hf' hm')
          rintro e a2 w2 ⟨rfl, F2, h2', ρ2, k1, k2, k3, k4⟩
          exact ⟨rfl, F2, h2', ρ2, k1, hEE.trans hl k2, k3, k4⟩
end
end Hx
