/- The evaluator: a map with several entries is ranged over: whatever comes next. -/
import Derived.Test.YtkpemddbabbiaaaGreatDoorHxY
namespace Hx
open Go

section
variable {P : Program}

theorem choose_run (m : Nat) (hm : 0 < m) (w : World) : ∃ j w', j < m ∧ (choose (.mapNext m)).run P w = .ok j w' ∧ w'.heap = w.heap ∧ w'.tape = w.tape ∧ w'.os = w.os ∧ w'.output = w.output := by
  by_cases h1 : m ≤ 1
  · refine ⟨0, w, hm, ?_, rfl, rfl, rfl, rfl⟩
    simp [choose, Sem.run, Question.forced, h1]
  · refine ⟨w.tape w.drawn (.mapNext m) % m, { w with drawn := w.drawn + 1 }, Nat.mod_lt _ hm, ?_, rfl, rfl, rfl, rfl⟩
    simp [choose, Sem.run, Question.forced, h1, Question.cut]

theorem filter_born {e : MapEntry} : ∀ {L : List MapEntry} {j : Nat}, L.Pairwise (fun a b => a.born < b.born) → L[j]? = some e → L.filter (fun x => !(x.born == e.born)) = L.eraseIdx j
  | [], j, _, h => by simp at h
  | x :: L, 0, hp, h => by
    have : x = e := by simpa using h
    subst this
    rw [List.pairwise_cons] at hp
    simp only [List.filter_cons, beq_self_eq_true, Bool.not_true, Bool.false_eq_true, if_false, List.eraseIdx_cons_zero]
    refine List.filter_eq_self.2 fun y hy => ?_
    have := hp.1 y hy
    have hne : (y.born == x.born) = false := by simpa using Nat.ne_of_gt this
    simp [hne]
  | x :: L, j + 1, hp, h => by
    have h : L[j]? = some e := by simpa using h
    rw [List.pairwise_cons] at hp
    have hlt := hp.1 e (List.mem_of_getElem? h)
    have hne : (x.born == e.born) = false := by simpa using Nat.ne_of_lt hlt
    simp only [List.filter_cons, hne, Bool.not_false, if_true, List.eraseIdx_cons_succ]
    rw [filter_born hp.2 h]

theorem MR.erase {ρ : Ren} : ∀ {es : List (AV × AV)} {ces : List MapEntry}, MR ρ es ces → ∀ {j : Nat} {e : MapEntry}, ces[j]? = some e → ∃ x, es[j]? = some x ∧ VR ρ x.1 e.key ∧ VR ρ x.2 e.val ∧ MR ρ (es.eraseIdx j) (ces.eraseIdx j)
  | [], _, h, j, e, he => by cases h; simp at he
  | _ :: _, _, h, 0, e, he => by
    cases h with
    | cons k v e' l es hk hv t =>
      have : e' = e := by simpa using he
      subst this
      exact ⟨_, rfl, hk, hv, t⟩
  | _ :: _, _, h, j + 1, e, he => by
    cases h with
    | cons k v e' l es hk hv t =>
      obtain ⟨x, h1, h2, h3, h4⟩ := MR.erase t (j := j) (by simpa using he)
      exact ⟨x, by simpa using h1, h2, h3, .cons _ _ _ _ _ hk hv h4⟩

theorem perm_erase {α : Type} : ∀ {l : List α} {j : Nat} {x : α}, l[j]? = some x → l.Perm (x :: l.eraseIdx j)
  | [], j, _, h => by simp at h
  | y :: l, 0, x, h => by
    have : y = x := by simpa using h
    subst this
    exact List.Perm.refl _
  | y :: l, j + 1, x, h => by
    have h : l[j]? = some x := by simpa using h
    exact ((perm_erase h).cons y).trans (List.Perm.swap _ _ _)

/-- the next one, whichever it is -/
theorem nxt_any {ρ : Ren} {h : Hp} {w : World} (hw : WR ρ h w) (hlm : Lim ρ h) {i r n : Nat} {left es : List (AV × AV)} {cur : Option (AV × AV)} {u : Value} {ty : Nat} (hi : h.t.get i = some (.miter (some (r, n)) left cur)) (hr : h.t.get r = some (.map es n)) (h2 : 2 ≤ es.length) (hx : VR ρ (.ptr i 0) u) :
    (left = [] ∧ (Instr.next u false ty).run P w = .ok (.tuple #[.bool false]) w) ∨
    ∃ x left' kv vv w', left.Perm (x :: left') ∧ (Instr.next u false ty).run P w = .ok (.tuple #[.bool true, kv, vv]) w' ∧ VR ρ x.1 kv ∧ VR ρ x.2 vv ∧ Ext ρ ρ h (h.put i (.miter (some (r, n)) left' (some x))) w w' := by
  cases hx with
  | ptrd _ _ a hd => exact absurd (hw.dead i _ hd hi) (by simp)
  | ptr _ _ b N hl =>
    obtain ⟨o, ho, b', since, seen, stepped, es0, m0, rfl, ⟨m', hm'⟩, hr0, _, hir⟩ := hw.blk i b N _ hl hi
    rw [hr] at hr0
    simp only [Option.some.injEq, Blk.map.injEq] at hr0
    obtain ⟨rfl, rfl⟩ := hr0
    obtain ⟨ces, clock, hces, rfl, rfl, hor⟩ := hir rfl
    obtain ⟨o', ho', ces', clock', rfl, hmr, hborn, hpw⟩ := hw.blk r b' m' _ hm' hr
    rw [hces] at ho'
    simp only [Option.some.injEq, Obj.map.injEq] at ho'
    obtain ⟨rfl, rfl⟩ := ho'
    have hne : ces.toList ≠ [] := fun q => by
      have := hmr.length
      rw [q] at this
      simp at this
      subst this
      simp at h2
    have hrest : Rest ρ left ces seen := by
      rcases hor with ⟨rfl, rfl, rfl⟩ | ⟨k', u', e, rfl, rfl, rfl, rfl, rfl⟩ | ⟨_, _, _, _, _, _, _, _, _, h⟩
      · obtain ⟨es', g1, g2⟩ := hmr
        refine ⟨es', ?_, ?_⟩
        · rcases g2 with rfl | ⟨g2, _⟩
          · exact List.Perm.refl _
          · exact g2
        · rw [List.filter_eq_self.2 (fun x _ => by simp)]
          exact g1
      · simp at h2
      · exact h
    obtain ⟨l, hlp, hlm'⟩ := hrest
    have hq : ∀ x ∈ ces, ¬ (stepped ≤ x.born) := fun x hx => by have := hborn x (by simpa using hx); omega
    have hall : ces.all (fun x => decide (x.born ≥ stepped)) = false := by
      rw [Array.all_eq_false]
      have : 0 < ces.size := by
        rcases Nat.eq_zero_or_pos ces.size with q | q
        · exact absurd (by simpa using q) hne
        · exact q
      exact ⟨0, this, by simpa using hq _ (Array.getElem_mem this)⟩
    -- what is left
    generalize hA : (ces.filter fun e => !seen.contains e.born) = A
    have hAl : A.toList = ces.toList.filter fun e => !seen.contains e.born := by rw [← hA, Array.toList_filter]
    rw [← hAl] at hlm'
    have hAmem : ∀ x ∈ A, x ∈ ces := fun x hx => by
      have : x ∈ A.toList := by simpa using hx
      rw [hAl] at this
      simpa using (List.mem_filter.1 this).1
    have hold : A.filter (fun e => decide (e.born < stepped)) = A := by
      rw [Array.filter_eq_self]
      intro x hx
      have := hq x (hAmem x hx)
      simp; omega
    have hnew : A.filter (fun e => decide (e.born ≥ stepped)) = #[] := by
      rw [Array.filter_eq_empty_iff]
      intro x hx
      have := hq x (hAmem x hx)
      simp; omega
    by_cases hAe : A = #[]
    · left
      have hl0 : l = [] := by
        have := hlm'.length
        rw [hAe] at this
        simpa using this
      subst hl0
      refine ⟨hlp.nil_eq.symm, ?_⟩
      unfold Instr.next
      simp only [Sem.run_bind, getObj_ok ho (by simp), getObj_ok hces (by simp), Result.andThen_ok, hall, hA, hold, hnew, hAe]
      simp [choose, Sem.run, Question.forced]
    · right
      have hpos : 0 < A.size := by
        rcases Nat.eq_zero_or_pos A.size with q | q
        · exact absurd (by simpa using q) hAe
        · exact q
      obtain ⟨j, w1, hj, hrun, hheap, hio1, hio2, hio3⟩ := choose_run (P := P) A.size hpos w
      have hje : A.toList[j]? = some A[j] := by simp [hj]
      obtain ⟨x, hx1, hx2, hx3, hx4⟩ := hlm'.erase hje
      have hme : A[j] ∈ ces := hAmem _ (Array.getElem_mem hj)
      have ho1 : w1.heap[b]? = some (.mapIter (some b') stepped seen stepped) := by rw [hheap]; exact ho
      obtain ⟨w2, hs, hat⟩ := setObj_at (P := P) (o' := .mapIter (some b') stepped (seen.push A[j].born) stepped) ho1 (by simp)
      have hat' : At w w2 b (.mapIter (some b') stepped (seen.push A[j].born) stepped) :=
        ⟨hat.here, fun c hc => by rw [hat.other c hc, hheap], by rw [hat.size, hheap], hat.io.1.trans hio1, hat.io.2.1.trans hio2, hat.io.2.2.trans hio3⟩
      refine ⟨x, l.eraseIdx j, A[j].key, A[j].val, w2, hlp.symm.trans (perm_erase hx1), ?_, hx2, hx3, Ext.put hw hlm hl hi (by simp) hat' ⟨b', stepped, seen.push A[j].born, stepped, _, n, rfl, ⟨m', hm'⟩, ?_, Nat.le_refl _, fun _ => ⟨ces, stepped, ?_, rfl, rfl, .inr (.inr ⟨x.1, x.2, A[j], rfl, h2, by simpa using hme, by simp, hx2, hx3, l.eraseIdx j, List.Perm.refl _, ?_⟩)⟩⟩ (by simp)⟩
      · unfold Instr.next
        simp only [Sem.run_bind, getObj_ok ho (by simp), getObj_ok hces (by simp), Result.andThen_ok, hall, hA, hold, hnew]
        have hemp : A.isEmpty = false := by simpa using hAe
        simp only [hemp, Bool.and_false, Bool.false_eq_true, if_false, Array.append_empty, Array.empty_append, Array.size_map, Sem.run_bind, hrun, Result.andThen_ok, Array.getElem?_map, Array.getElem?_eq_getElem hj, Option.map_some, hs, Sem.run_pure]
      · have hri : r ≠ i := fun e => by rw [e, hi] at hr; cases hr
        rw [put_get_ne h _ hri]; exact hr
      · have hbb : b' ≠ b := fun e => by rw [e, ho] at hces; cases hces
        rw [hat'.other b' hbb]; exact hces
      · have h1 : (ces.toList.filter fun y => !(seen.push A[j].born).contains y.born) = A.toList.filter (fun y => !(y.born == A[j].born)) := by
          rw [hAl, List.filter_filter]
          refine List.filter_congr fun y _ => ?_
          rw [Array.contains_push]
          cases seen.contains y.born <;> cases hh : (y.born == A[j].born) <;> simp_all [BEq.comm]
        rw [h1, filter_born (by rw [hAl]; exact hpw.sublist List.filter_sublist) hje]
        exact hx4
end
end Hx
