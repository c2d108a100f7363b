/- The evaluator: a map with several entries is ranged over: whatever comes next. -/
import Derived.Test.YtopkkjgjohgogaaGreatDoorHxY
namespace Hx
open Go

section
variable {P : Program}

theorem choose_run (m : Nat) (hm : 0 < m) (w : World) : ∃ j w', j < m ∧ (choose (.mapNext m)).run P w = .ok j w' ∧ w'.heap = w.heap ∧ w'.tape = w.tape ∧ w'.os = w.os ∧ w'.output = w.output := by
  by_cases h1 : m ≤ 1
  · refine ⟨0, w, hm, ?_, rfl, rfl, rfl, rfl⟩
    simp [choose, Sem.run, Question.forced, h1]
  · refine ⟨w.tape w.drawn (.mapNext m) % m, { w with drawn := w.drawn + 1 }, Nat.mod_lt _ hm, ?_, rfl, rfl, rfl, rfl⟩
    simp [choose, Sem.run, Question.forced, h1, Question.cut]

theorem filter_born {e : MapEntry} : ∀ {L : List MapEntry} {j : Nat}, L.Pairwise (fun a b => a.born < b.born) → L[j]? = some e → L.filter (fun x => !(x.born == e.born)) = L.eraseIdx j
  | [], j, _, h => by simp at h
  | x :: L, 0, hp, h => by
    have : x = e := by simpa using h
    subst this
    rw [List.pairwise_cons] at hp
    simp only [List.filter_cons, beq_self_eq_true, Bool.not_true, Bool.false_eq_true, if_false, List.eraseIdx_cons_zero]
    refine List.filter_eq_self.2 fun y hy => ?_
    have := hp.1 y hy
    have hne : (y.born == x.born) = false := by simpa using Nat.ne_of_gt this
    simp [hne]
  | x :: L, j + 1, hp, h => by
    have h : L[j]? = some e := by simpa using h
    rw [List.pairwise_cons] at hp
    have hlt := hp.1 e (List.mem_of_getElem? h)
    have hne : (x.born == e.born) = false := by simpa using Nat.ne_of_lt hlt
    simp only [List.filter_cons, hne, Bool.not_false, if_true, List.eraseIdx_cons_succ]
    rw [filter_born hp.2 h]

theorem MR.erase {ρ : Ren} : ∀ {es : List (AV × AV)} {ces : List MapEntry}, MR ρ es ces → ∀ {j : Nat} {e : MapEntry}, ces[j]? = some e → ∃ x, es[j]? = some x ∧ VR ρ x.1 e.key ∧ VR ρ x.2 e.val ∧ MR ρ (es.eraseIdx j) (ces.eraseIdx j)
  | [], _, h, j, e, he => by cases h; simp at he
  | _ :: _, _, h, 0, e, he => by
    cases h with
    | cons k v e' l es hk hv t =>
      have : e' = e := by simpa using he
      subst this
      exact ⟨_, rfl, hk, hv, t⟩
  | _ :: _, _, h, j + 1, e, he => by
    cases h with
    | cons k v e' l es hk hv t =>
      obtain ⟨x, h1, h2, h3, h4⟩ := MR.erase t (j := j) (by simpa using he)
      exact ⟨x, by simpa using h1, h2, h3, .cons _ _ _ _ _ hk hv h4⟩

theorem perm_erase {α : Type} : ∀ {l : List α} {j : Nat} {x : α}, l[j]? = some x → l.Perm (x :: l.eraseIdx j)
  | [], j, _, h => by simp at h
  | y :: l, 0, x, h => by
    have : y = x := by simpa using h
    subst this
    exact List.Perm.refl _
  | y :: l, j + 1, x, h => by
    have h : l[j]? = some x := by simpa using h
    exact ((perm_erase h).cons y).trans (List.Perm.swap _ _ _)

/-- the next one, whichever it is -/
theorem nxt_any {ρ : Ren} {h : Hp} {w : World} (hw : WR ρ h w) (hlm : Lim ρ h) {i r n : Nat} {left es : List (AV × AV)} {cur : Option (AV × AV)} {u : Value} {ty : Nat} (hi : h.t.get i = some (.miter (some (r, n)) left cur)) (hr : h.t.get r = some (.map es n)) (h2 : 2 ≤ es.length) (hx : VR ρ (.ptr i 0) u) :
    (left = [] ∧ (Instr.next u false ty).run P w = .ok (.tuple #[.bool false]) w) ∨
    ∃ x left' kv vv w', left.Perm (x :: left') ∧ (Instr.next u false ty).run P w = .ok (.tuple #[.bool true, kv, vv]) w' ∧ VR ρ x.1 kv ∧ VR ρ x.2 vv ∧ Ext ρ ρ h (h.put i (.miter (some (r, n)) left' (some x))) w w' := by
  cases hx with
  | ptrd _ _ a hd => exact absurd (hw.dead i _ hd hi) (by simp)
  | ptr _ _ b N hl =>
    obtain ⟨o, ho, b', since, seen, stepped, es0, m0, rfl, ⟨m', hm'⟩, hr0, _, hir⟩ := hw.blk i b N _ hl hi
    rw [hr] at hr0
    simp only [Option.some.injEq, Blk.map.injEq] at hr0
    obtain ⟨rfl, rfl⟩ := hr0
    obtain ⟨ces, clock, hces, rfl, rfl, hor⟩ := hir rfl
    obtain ⟨o', ho', ces', clock', rfl, hmr, hborn, hpw⟩ := hw.blk r b' m' _ hm' hr
    rw [hces] at ho'
    simp only [Option.some.injEq, Obj.map.injEq] at ho'
    obtain ⟨rfl, rfl⟩ := ho'
    have hne : ces.toList ≠ [] := fun q => by
      have := hmr.length
      rw [q] at this
      simp at this
      subst this
      simp at h2
    have hrest : Rest ρ left ces seen := by
      rcases hor with ⟨rfl, rfl, rfl⟩ | ⟨k', u', e, rfl, rfl, rfl, rfl, rfl⟩ | ⟨_, _, _, _, _, _, _, _, _, h⟩
      · obtain ⟨es', g1, g2⟩ := hmr
        refine ⟨es', ?_, ?_⟩
        · rcases g2 with rfl | ⟨g2, _⟩
          · exact List.Perm.refl _
          · exact g2
        · rw [List.filter_eq_self.2 (fun x _ => by simp)]
          exact g1
      · simp at h2
      · exact h
    obtain ⟨l, hlp, hlm'⟩ := hrest
    have hq : ∀ x ∈ ces, ¬ (stepped ≤ x.born) := fun x hx => by have := hborn x (by simpa using hx); omega
    have hall : ces.all (fun x => decide (x.born ≥ stepped)) = false := by
      rw [Array.all_eq_false]
      have : 0 < ces.size := by
        rcases Nat.eq_zero_or_pos ces.size with q | q
        · exact absurd (by simpa using q) hne
        · exact q
      exact ⟨0, this, by simpa using hq _ (Array.getElem_mem this)⟩
    -- what is left
    generalize hA : (ces.filter fun e => !seen.contains e.born) = A
    have hAl : A.toList = ces.toList.filter fun e => !seen.contains e.born := by rw [← hA, Array.toList_filter]
    rw [← hAl] at hlm'
    have hAmem : ∀ x ∈ A, x ∈ ces := fun x hx => by
      have : x ∈ A.toList := by simpa using hx
      rw [hAl] at this
      simpa using (List.mem_filter.1 this).1
    have hold : A.filter (fun e => decide (e.born < stepped)) = A := by
      rw [Array.filter_eq_self]
      intro x hx
      have := hq x (hAmem x hx)
      simp; omega
    have hnew : A.filter (fun e => decide (e.born ≥ stepped)) = #[] := by
      rw [Array.filter_eq_empty_iff]
      intro x hx
      have := hq x (hAmem x hx)
      simp; omega
    by_cases hAe : A = #[]
    · left
      have hl0 : l = [] := by
        have := hlm'.length
        rw [hAe] at this
        simpa using this
      subst hl0
      refine ⟨hlp.nil_eq.symm, ?_⟩
      unfold Instr.next
      simp only [Sem.run_bind, getObj_ok ho (by simp), getObj_ok hces (by simp), Result.andThen_ok, hall, hA, hAe]
      simp [choose, Sem.run, Question.forced]
    · right
      have hpos : 0 < A.size := by
        rcases Nat.eq_zero_or_pos A.size with q | q
        · exact absurd (by simpa using q) hAe
        · exact q
      obtain ⟨j, w1, hj, hrun, hheap, hio1, hio2, hio3⟩ := choose_run (P := P) A.size hpos w
      have hje : A.toList[j]? = some A[j] := by simp [hj]
      obtain ⟨x, hx1, hx2, hx3, hx4⟩ := hlm'.erase hje
      have hme : A[j] ∈ ces := hAmem _ (Array.getElem_mem hj)
      have ho1 : w1.heap[b]? = some (.mapIter (some b') stepped seen stepped) := by rw [hheap]; exact ho
      obtain ⟨w2, hs, hat⟩ := setObj_at (P := P) (o' := .mapIter (some b') stepped (seen.push A[j].born) stepped) ho1 (by simp)
      have hat' : At w w2 b (.mapIter (some b') stepped (seen.push A[j].born) stepped) :=
        ⟨hat.here, fun c hc => by rw [hat.other c hc, hheap], by rw [hat.size, hheap], hat.io.1.trans hio1, hat.io.2.1.trans hio2, hat.io.2.2.trans hio3⟩
      refine ⟨x, l.eraseIdx j, A[j].key, A[j].val, w2, hlp.symm.trans (perm_erase hx1), ?_, hx2, hx3, Ext.put hw hlm hl hi (by simp) hat' ⟨b', stepped, seen.push A[j].born, stepped, _, n, rfl, ⟨m', hm'⟩, ?_, Nat.le_refl _, fun _ => ⟨ces, stepped, ?_, rfl, rfl, .inr (.inr ⟨x.1, x.2, A[j], rfl, h2, by simpa using hme, by simp, hx2, hx3, l.eraseIdx j, List.Perm.refl _, ?_⟩)⟩⟩ (by simp)⟩
      · unfold Instr.next
        simp only [Sem.run_bind, getObj_ok ho (by simp), getObj_ok hces (by simp), Result.andThen_ok, hall, hA, hold, hnew]
        have hemp : A.isEmpty = false := by simpa using hAe
        simp only [hemp, Bool.and_false, Bool.false_eq_true, if_false, Array.append_empty, Array.empty_append, Array.size_map, Sem.run_bind, hrun, Result.andThen_ok, Array.getElem?_map, Array.getElem?_eq_getElem hj, Option.map_some, hs, Sem.run_pure]
      · have hri : r ≠ i := fun e => by rw [e, hi] at hr; cases hr
        rw [put_get_ne h _ hri]; exact hr
      · have hbb : b' ≠ b := fun e => by rw [e, ho] at hces; cases hces
        rw [hat'.other b' hbb]; exact hces
      · have h1 : (ces.toList.filter fun y => !(seen.push A[j].born).contains y.born) = A.toList.filter (fun y => !(y.born == A[j].born)) := by
          rw [hAl, List.filter_filter]
          refine List.filter_congr fun y _ => ?_
          rw [Array.contains_push]
          cases seen.contains y.born <;> cases hh : (y.born == A[j].born) <;> simp_all
        rw [h1, filter_born (by rw [hAl]; exact hpw.sublist List.filter_sublist) hje]
        exact hx4
end
end Hx

/- The evaluator: a loop over a map's entries, in whatever order. -/
namespace Hx
open Go

section
variable {P : Program}

theorem wpList_one {ops : Array Oper} {Q : Exit → Act → World → Prop} {o : Oper} {rest : List Oper} {a : Act} {w : World} (hg : o.guard = none) (h : o.wp P a w (wpList P ops Q rest) Q) : wpList P ops Q (o :: rest) a w := by
  unfold wpList
  have : Region.wanted o (yielded ops a.tmps) = true := by unfold Region.wanted; rw [hg]
  rw [this, if_pos rfl]
  exact .inl h

theorem getD_put {a : Act} {d t : Nat} {u : Value} (hd : d < a.tmps.size) : (a.put (some d) u).tmps.getD t undef = if d = t then u else a.tmps.getD t undef := by
  show (a.tmps.setIfInBounds d u).getD t undef = _
  by_cases hit : d = t
  · subst hit
    rw [Array.getD_eq_getD_getElem?, Array.getElem?_setIfInBounds, if_pos rfl, if_pos hd, if_pos rfl]; rfl
  · rw [Array.getD_eq_getD_getElem?, Array.getElem?_setIfInBounds, if_neg hit, if_neg hit, ← Array.getD_eq_getD_getElem?]

/-- a slot of which the frame says nothing is written -/
theorem FR.other {ρ : Ren} {F : Fr} {a : Act} {d : Nat} {u : Value} (hf : FR ρ F [] [] a) (hd : d < a.tmps.size) (hn : F.get d = none) : FR ρ F [] [] (a.put (some d) u) := fun t => by
  have h0 := hf t
  rw [co_tmp, findD_nil] at h0 ⊢
  simp only at h0 ⊢
  rw [getD_put hd]
  by_cases h : d = t
  · subst h
    rw [ev_f, hn]
    exact .bot _
  · rw [if_neg h]; exact h0

theorem Fm.put {nt outs : Nat} {F : Fr} {a : Act} (hm : Fm nt outs F a) (d : Option Nat) (u : Value) : Fm nt outs F (a.put d u) :=
  ⟨hm.outs, by rw [put_size]; exact hm.size, by rw [put_defers]; exact hm.defers⟩

/-- how a loop over a map looks -/
def RangeShape (c : Code) (it tn tc id : Nat) (B : Code) : Prop := ∃ rid ops o1 o2, c = .seq (.region rid ops false) (.seq (.cond (.tmp tc) .skip (.exit id)) B) ∧ ops.toList = [o1, o2] ∧ o1.op = .next (.tmp it) false ∧ o1.dst = some tn ∧ o1.guard = none ∧ o2.op = .extract (.tmp tn) 0 ∧ o2.dst = some tc ∧ o2.guard = none

/-- what a loop's piece comes to -/
def Ends (nt outs : Nat) (x : Exit) (J : Fr → Hp → Prop) (ρ : Ren) (h : Hp) (w : World) (e : Exit) (a' : Act) (w' : World) : Prop :=
  e = x ∧ ∃ F' h' ρ', J F' h' ∧ Ext ρ ρ' h h' w w' ∧ FR ρ' F' [] [] a' ∧ Fm nt outs F' a'

theorem rounds_mono {c : Code} {Q Q' : Exit → Act → World → Prop} (hq : ∀ e a w, Q e a w → Q' e a w) : ∀ (k : Nat) (a : Act) (w : World), Code.rounds P c Q k a w → Code.rounds P c Q' k a w
  | 0, _, _, h => h
  | k + 1, a, w, h => by
    rw [rounds_succ] at h ⊢
    refine wp_mono h fun e a w he => ?_
    cases e <;> first | exact hq _ _ _ he | exact rounds_mono hq k _ _ he

theorem loop_any {nt outs i r n it tn tc id : Nat} {c B : Code} {es : List (AV × AV)} (hc : RangeShape c it tn tc id B) (hn1 : tn < nt) (hn2 : tc < nt) (_hne : tn ≠ tc) (h2 : 2 ≤ es.length) (J : List (AV × AV) → Fr → Hp → Prop)
    (hJ : ∀ left F h, J left F h → F.get it = some (.ptr i 0) ∧ F.get tn = none ∧ F.get tc = none ∧ (∃ cur, h.t.get i = some (.miter (some (r, n)) left cur)) ∧ h.t.get r = some (.map es n))
    (hB : ∀ left x left' F h, J left F h → left.Perm (x :: left') → ∀ (a : Act) (w : World) (ρ : Ren), WR ρ (h.put i (.miter (some (r, n)) left' (some x))) w → Lim ρ (h.put i (.miter (some (r, n)) left' (some x))) → Gl ρ (h.put i (.miter (some (r, n)) left' (some x))) → FR ρ F [] [] a → Fm nt outs F a →
      B.wp P (Ends nt outs .normal (J left') ρ (h.put i (.miter (some (r, n)) left' (some x))) w) a w) :
    ∀ (k : Nat) (left : List (AV × AV)) (F : Fr) (h : Hp) (a : Act) (w : World) (ρ : Ren), left.length = k → J left F h → WR ρ h w → Lim ρ h → Gl ρ h → FR ρ F [] [] a → Fm nt outs F a →
      Code.rounds P c (Ends nt outs (.exit id) (J []) ρ h w) (k + 1) a w := by
  intro k
  induction k with
  | zero =>
    intro left F h a w ρ hk hj hw hl hg hf hm
    have : left = [] := List.eq_nil_of_length_eq_zero hk
    subst this
    obtain ⟨j1, j2, j3, ⟨cur, j4⟩, j5⟩ := hJ _ _ _ hj
    obtain ⟨rid, ops, ⟨d1, op1, ty1, pos1, af1, g1⟩, ⟨d2, op2, ty2, pos2, af2, g2⟩, rfl, hops, q1, q2, q3, q4, q5, q6⟩ := hc
    simp only at q1 q2 q3 q4 q5 q6
    subst q1 q2 q3 q4 q5 q6
    have hx : VR ρ (.ptr i 0) (a.eval (.tmp it)) := by
      have := hf it
      rw [co_tmp, findD_nil] at this
      simp only at this
      rw [ev_f, j1] at this
      exact this
    rcases nxt_any (P := P) (ty := ty1) hw hl j4 j5 h2 hx with ⟨_, hrun⟩ | ⟨x, left', _, _, _, hp, _⟩
    · rw [rounds_succ]
      refine wp_seq (wp_region_list ?_)
      rw [hops]
      refine wpList_one rfl (run_res (u := .tuple #[.bool false]) (exec_v hrun) rfl (.inl rfl) _ _ ?_)
      have e1 : (a.put (some tn) (.tuple #[.bool false])).eval (.tmp tn) = .tuple #[.bool false] := by
        show (a.put (some tn) _).tmps.getD tn undef = _
        rw [getD_put (Nat.lt_of_lt_of_le hn1 hm.size), if_pos rfl]
      refine wpList_one rfl (run_res (u := .bool false) (w' := w) (s := execOp (a.put (some tn) (.tuple #[.bool false])).eval ⟨some tc, .extract (.tmp tn) 0, ty2, pos2, af2, none⟩) (nx := .value (.bool false)) ?_ rfl (.inl rfl) _ _ ?_)
      · simp only [execOp, e1]
        exact exec_v (by unfold Instr.extract; rfl)
      · refine wpList_nil ?_
        show (Code.seq (.cond (.tmp tc) .skip (.exit id)) B).wp P _ _ _
        refine wp_seq (wp_cond_false ?_ (wp_exit ?_))
        · show (((a.put (some tn) _).put (some tc) _).tmps.getD tc undef) = _
          rw [getD_put (by rw [put_size]; exact Nat.lt_of_lt_of_le hn2 hm.size), if_pos rfl]
        · exact ⟨rfl, F, h, ρ, hj, Ext.rfl hw hl, (hf.other (Nat.lt_of_lt_of_le hn1 hm.size) j2).other (by rw [put_size]; exact Nat.lt_of_lt_of_le hn2 hm.size) j3, (hm.put _ _).put _ _⟩
    · exact absurd hp.length_eq (by simp)
  | succ k ih =>
    intro left F h a w ρ hk hj hw hl hg hf hm
    have hc0 := hc
    obtain ⟨j1, j2, j3, ⟨cur, j4⟩, j5⟩ := hJ _ _ _ hj
    obtain ⟨rid, ops, ⟨d1, op1, ty1, pos1, af1, g1⟩, ⟨d2, op2, ty2, pos2, af2, g2⟩, rfl, hops, q1, q2, q3, q4, q5, q6⟩ := hc
    simp only at q1 q2 q3 q4 q5 q6
    subst q1 q2 q3 q4 q5 q6
    have hx : VR ρ (.ptr i 0) (a.eval (.tmp it)) := by
      have := hf it
      rw [co_tmp, findD_nil] at this
      simp only at this
      rw [ev_f, j1] at this
      exact this
    rcases nxt_any (P := P) (ty := ty1) hw hl j4 j5 h2 hx with ⟨hz, _⟩ | ⟨x, left', kv, vv, w1, hp, hrun, _, _, hE⟩
    · subst hz; simp at hk
    · rw [rounds_succ]
      refine wp_seq (wp_region_list ?_)
      rw [hops]
      refine wpList_one rfl (run_res (u := .tuple #[.bool true, kv, vv]) (exec_v hrun) rfl (.inl rfl) _ _ ?_)
      have e1 : (a.put (some tn) (.tuple #[.bool true, kv, vv])).eval (.tmp tn) = .tuple #[.bool true, kv, vv] := by
        show (a.put (some tn) _).tmps.getD tn undef = _
        rw [getD_put (Nat.lt_of_lt_of_le hn1 hm.size), if_pos rfl]
      refine wpList_one rfl (run_res (u := .bool true) (w' := w1) (s := execOp (a.put (some tn) (.tuple #[.bool true, kv, vv])).eval ⟨some tc, .extract (.tmp tn) 0, ty2, pos2, af2, none⟩) (nx := .value (.bool true)) ?_ rfl (.inl rfl) _ _ ?_)
      · simp only [execOp, e1]
        exact exec_v (by unfold Instr.extract; rfl)
      · refine wpList_nil ?_
        show (Code.seq (.cond (.tmp tc) .skip (.exit id)) B).wp P _ _ _
        refine wp_seq (wp_cond_true ?_ (wp_skip ?_))
        · show (((a.put (some tn) _).put (some tc) _).tmps.getD tc undef) = _
          rw [getD_put (by rw [put_size]; exact Nat.lt_of_lt_of_le hn2 hm.size), if_pos rfl]
        · show B.wp P _ _ _
          have hf1 := (hf.other (u := .tuple #[.bool true, kv, vv]) (Nat.lt_of_lt_of_le hn1 hm.size) j2).other (u := .bool true) (by rw [put_size]; exact Nat.lt_of_lt_of_le hn2 hm.size) j3
          have hm1 := (hm.put (some tn) (.tuple #[.bool true, kv, vv])).put (some tc) (.bool true)
          refine wp_mono (hB left x left' F h hj hp _ w1 ρ hE.wr hE.lim (hg.ext hl hE) hf1 hm1) ?_
          rintro e a' w' ⟨rfl, F', h', ρ', hj', hE', hf', hm'⟩
          have hlen : left'.length = k := by have := hp.length_eq; simp at this; omega
          have hEE := hE.trans hl hE'
          refine rounds_mono ?_ _ _ _ (ih left' F' h' a' w' ρ' hlen hj' hE'.wr hE'.lim (hg.ext hl hEE) hf' hm')
          rintro e a2 w2 ⟨rfl, F2, h2', ρ2, k1, k2, k3, k4⟩
          exact ⟨rfl, F2, h2', ρ2, k1, hEE.trans hl k2, k3, k4⟩
end
end Hx
