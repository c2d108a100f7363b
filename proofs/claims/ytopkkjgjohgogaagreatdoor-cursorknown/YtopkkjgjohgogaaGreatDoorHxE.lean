/- The evaluator: worldless operations, all of them. -/
import Derived.Test.YtopkkjgjohgogaaGreatDoorHxD
import Derived.Laws.StructEq
import Derived.MapKept
namespace Hx
open Go

section
variable {P : Program}

theorem exec_v {s : Sem Value} {v : Value} {w w' : World} (h : s.run P w = .ok v w') : (do pure (Next.value (← s)) : Sem Next).run P w = .ok (.value v) w' := by
  simp [h]
theorem exec_u {s : Sem Unit} {w w' : World} (h : s.run P w = .ok () w') : (do s; pure Next.skip : Sem Next).run P w = .ok .skip w' := by
  simp [h]

theorem str_eq {a b : List Nat} {x y : ByteArray} (hx : x.data.toList.map UInt8.toNat = a) (hy : y.data.toList.map UInt8.toNat = b) : (x.toList == y.toList) = eqN a b := by
  subst hx; subst hy
  rw [eqN_iff, ByteArray.toList_eq, ByteArray.toList_eq]
  by_cases h : x.data.toList = y.data.toList
  · simp [h]
  · rw [decide_eq_false (fun e => h (bytes_eq.1 e))]; simpa using fun e => h (by simpa using congrArg Array.toList e)

/-- the description of a scalar's type -/
def SC.of (c : SC) (d : TypeDesc) : Prop := match c with
  | .b => d = .bool
  | .i => ∃ k, d = .int k
  | .s => d = .string
theorem scT_of {t : Nat} {c : SC} (h : scT P t = some c) : ∃ d, P.underlying t = some d ∧ c.of d := by
  unfold scT at h
  split at h <;> simp only [Option.some.injEq, reduceCtorEq] at h <;> subst h <;> exact ⟨_, ‹_›, by simp [SC.of]⟩

/-- the shapes of two scalars that compare -/
theorem eq1_shape {ρ : Ren} {c : SC} {x y : AV} {u v : Value} {b : Bool} (hx : VR ρ x u) (hy : VR ρ y v) (h : eq1 c x y = some b) :
    (c = .b ∧ ∃ p q, u = .bool p ∧ v = .bool q ∧ b = (p == q)) ∨ (c = .i ∧ ∃ k p q, u = .int k p ∧ v = .int k q ∧ b = (p == q)) ∨
      (c = .s ∧ ∃ p q : ByteArray, u = .string p ∧ v = .string q ∧ b = (p.toList == q.toList)) := by
  unfold eq1 at h
  split at h
  · cases hx; cases hy
    simp only [Option.some.injEq, eqB_eq] at h
    exact .inl ⟨rfl, _, _, rfl, rfl, h.symm⟩
  · rename_i k p k' q
    cases hx; cases hy
    rw [eqK_eq] at h
    by_cases hk : k = k'
    · subst hk
      simp only [decide_true, cond_true, Option.some.injEq, eqI_eq] at h
      exact .inr (.inl ⟨rfl, _, _, _, rfl, rfl, h.symm⟩)
    · simp [hk] at h
  · cases hx; cases hy
    simp only [Option.some.injEq] at h
    rename_i s hs s' hs'
    exact .inr (.inr ⟨rfl, _, _, rfl, rfl, by rw [str_eq hs hs']; exact h.symm⟩)
  · cases h

theorem eq1_ok {ρ : Ren} {c : SC} {x y : AV} {u v : Value} {b : Bool} {t : Nat} (w : World) (hs : scT P t = some c) (hx : VR ρ x u) (hy : VR ρ y v) (h : eq1 c x y = some b) (d : Nat) :
    (Op.equalIn (d + 1) t u v).run P w = .ok b w := by
  obtain ⟨dd, hu, hof⟩ := scT_of hs
  rcases eq1_shape hx hy h with ⟨rfl, p, q, rfl, rfl, rfl⟩ | ⟨rfl, k, p, q, rfl, rfl, rfl⟩ | ⟨rfl, p, q, rfl, rfl, rfl⟩
  · have : dd = .bool := hof; subst this; exact run_equalIn_bool w d t p q hu
  · obtain ⟨k', rfl⟩ := hof; exact run_equalIn_int w d t k k' p q hu
  · have : dd = .string := hof; subst this; exact run_equalIn_string w d t p q hu

theorem isAgg_sc {t : Nat} {c : SC} (hs : scT P t = some c) (w : World) : (isAgg t).run P w = .ok false w := by
  obtain ⟨dd, hu, hof⟩ := scT_of hs
  cases c
  · have : dd = .bool := hof; subst this; simp [isAgg, run_underlying hu]
  · obtain ⟨k', rfl⟩ := hof; simp [isAgg, run_underlying hu]
  · have : dd = .string := hof; subst this; simp [isAgg, run_underlying hu]

theorem part_sc {t : Nat} {c : SC} (hs : scT P t = some c) {cs : Array Value} {off : Nat} {v : Value} (h : cs[off]? = some v) (w : World) : (part t cs off).run P w = .ok v w := by
  unfold part
  simp only [Sem.run_bind, isAgg_sc hs w, Result.andThen_ok, Bool.false_eq_true, if_false, h, Sem.run_pure]

theorem eqL_ok {ρ : Ren} {a b : List AV} {xs ys : Array Value} (ha : VRs ρ a xs.toList) (hb : VRs ρ b ys.toList) (d : Nat) (w : World) :
    ∀ (fs : List Field) (offs : List (Nat × SC)) (r : Bool), offsL P fs = some offs → eqL offs a b = some r → (Op.eqFields (d + 1) xs ys fs).run P w = .ok r w
  | [], offs, r, ho, he => by
    simp only [offsL, Option.some.injEq] at ho; subst ho
    simp only [eqL, Option.some.injEq] at he; subst he
    rfl
  | f :: fs, offs, r, ho, he => by
    have ho' : (match scT P f.type, P.info? f.type, offsL P fs with
      | some c, some _, some l => bif decide (f.name ≠ "_") then some ((f.offset, c) :: l) else none
      | _, _, _ => none) = some offs := ho
    cases hc : scT P f.type with
    | none => rw [hc] at ho'; cases ho'
    | some c =>
      cases hi : P.info? f.type with
      | none => rw [hc, hi] at ho'; cases ho'
      | some i =>
        cases hl : offsL P fs with
        | none => rw [hc, hi, hl] at ho'; cases ho'
        | some l =>
          rw [hc, hi, hl] at ho'
          by_cases hn : f.name = "_"
          · simp [hn] at ho'
          · simp only [ne_eq, hn, not_false_eq_true, decide_true, cond_true, Option.some.injEq] at ho'
            subst ho'
            have he' : (match a[f.offset]?, b[f.offset]? with
              | some x, some y => (match eq1 c x y with
                | some true => eqL l a b
                | some false => some false
                | none => none)
              | _, _ => none) = some r := he
            cases hxa : a[f.offset]? with
            | none => rw [hxa] at he'; cases he'
            | some x =>
              cases hyb : b[f.offset]? with
              | none => rw [hxa, hyb] at he'; cases he'
              | some y =>
                rw [hxa, hyb] at he'
                obtain ⟨u, hu, hxu⟩ := ha.get hxa
                obtain ⟨v, hv, hyv⟩ := hb.get hyb
                simp only [Op.eqFields, ne_eq, hn, not_false_eq_true, if_true, Sem.run_bind, part_sc hc (by simpa using hu : xs[f.offset]? = some u) w,
                  part_sc hc (by simpa using hv : ys[f.offset]? = some v) w, Result.andThen_ok]
                cases h1 : eq1 c x y with
                | none => simp only [h1] at he'; cases he'
                | some r1 =>
                  rw [eq1_ok w hc hxu hyv h1 d]
                  simp only [h1] at he'
                  cases r1 with
                  | false =>
                    simp only [Option.some.injEq] at he'; subst he'
                    simp
                  | true =>
                    simp only [Result.andThen_ok, Bool.not_true, Bool.false_eq_true, if_false]
                    exact eqL_ok ha hb d w fs l r hl he'

theorem aggOffs_of {t : Nat} {o : List (Nat × SC)} (h : aggOffs P t = some o) : P.underlying t = some (.struct (P.fieldsOf t)) ∧ P.stoodInHeld t = false ∧ P.eqGuardType P.depth t = false ∧ offsL P (P.fieldsOf t).toList = some o := by
  unfold aggOffs at h
  unfold Program.fieldsOf
  split at h
  · rename_i fs hu
    rw [hu]
    cases hb : (!P.stoodInHeld t && !P.eqGuardType P.depth t) with
    | false => rw [hb] at h; cases h
    | true =>
      rw [hb] at h
      simp only [Bool.and_eq_true, Bool.not_eq_true'] at hb
      exact ⟨rfl, hb.1, hb.2, h⟩
  · cases h

/-- (the depth that the model begins with) -/
theorem eqAgg_ok {ρ : Ren} {t : Nat} {o : List (Nat × SC)} {a b : List AV} {xs ys : Array Value} {r : Bool} (w : World) (ho : aggOffs P t = some o) (ha : VRs ρ a xs.toList) (hb : VRs ρ b ys.toList) (he : eqL o a b = some r) :
    (Op.equal t (.agg xs) (.agg ys)).run P w = .ok r w := by
  obtain ⟨h1, h2, _, h4⟩ := aggOffs_of ho
  unfold Op.equal
  rw [show Op.maxDepth = 9998 + 1 + 1 from rfl, run_equalIn_struct w (9998 + 1) t xs ys h1 h2]
  exact eqL_ok ha hb 9998 w _ _ _ h4 he

theorem eq_fin {t : Nat} {op : BinOp} {x y : Operand} {u v : Value} {r : Bool} {w : World} (hq : isEq op = true) (h1 : binOp .eql t u v = (do pure (.bool (← Op.equal t u v)))) (h2 : binOp .neq t u v = (do pure (.bool (!(← Op.equal t u v)))))
    (hg : (eqGuard op t x y u v).run P w = .ok () w) (he : (Op.equal t u v).run P w = .ok r w) : (do eqGuard op t x y u v; binOp op t u v : Sem Value).run P w = .ok (.bool (if op = .neq then !r else r)) w := by
  cases op <;> simp only [isEq, Bool.false_eq_true] at hq
  · simp only [Sem.run_bind, hg, Result.andThen_ok, h1, he, Sem.run_pure, reduceCtorEq, if_false]
  · simp only [Sem.run_bind, hg, Result.andThen_ok, h2, he, Sem.run_pure, if_true]

theorem guard_ok {t : Nat} {op : BinOp} {x y : Operand} {u v : Value} {w : World} (h : match u, v with | .nilIface, .nilIface => False | .agg _, .agg _ => False | _, _ => True) : (eqGuard op t x y u v).run P w = .ok () w := by
  unfold eqGuard
  cases op <;> simp only [Bool.not_true, Bool.not_false, Bool.false_eq_true, if_false, if_true] <;> first | rfl | skip
  all_goals
    cases u <;> cases v <;> first | exact h.elim | rfl

theorem equal_of {t : Nat} {u v : Value} {r : Bool} {w : World} (h : ∀ d, (Op.equalIn (d + 1) t u v).run P w = .ok r w) : (Op.equal t u v).run P w = .ok r w := h 9999

theorem eqV_ptr {ρ : Ren} {t : Nat} {e : Nat} {op : BinOp} {x y : Operand} {a b : AV} {u v : Value} {r : Bool} (w : World) (hu : P.underlying t = some (.pointer e)) (ha : VR ρ a u) (hb : VR ρ b v) (he : eqV .ptr a b = some r) (hq : isEq op = true) :
    (do eqGuard op t x y u v; binOp op t u v : Sem Value).run P w = .ok (.bool (if op = .neq then !r else r)) w := by
  unfold eqV at he
  split at he <;> simp only [reduceCtorEq] at * <;> try (cases he; done)
  all_goals (cases ha <;> cases hb)
  all_goals (simp only [Option.some.injEq] at he; subst he; exact eq_fin hq rfl rfl (guard_ok trivial) (equal_of (fun d => by unfold Op.equalIn; simp only [Sem.run_bind, run_underlying hu, Result.andThen_ok, Option.isNone_none, Option.isNone_some]; rfl)))
theorem eqV_slc {ρ : Ren} {t : Nat} {e : Nat} {op : BinOp} {x y : Operand} {a b : AV} {u v : Value} {r : Bool} (w : World) (hu : P.underlying t = some (.slice e)) (ha : VR ρ a u) (hb : VR ρ b v) (he : eqV .slc a b = some r) (hq : isEq op = true) :
    (do eqGuard op t x y u v; binOp op t u v : Sem Value).run P w = .ok (.bool (if op = .neq then !r else r)) w := by
  unfold eqV at he
  split at he <;> simp only [reduceCtorEq] at * <;> try (cases he; done)
  all_goals (cases ha <;> cases hb)
  all_goals (simp only [Option.some.injEq] at he; subst he; exact eq_fin hq rfl rfl (guard_ok trivial) (equal_of (fun d => by unfold Op.equalIn; simp only [Sem.run_bind, run_underlying hu, Result.andThen_ok, Option.isNone_none, Option.isNone_some]; rfl)))
theorem eqV_map {ρ : Ren} {t : Nat} {k e : Nat} {op : BinOp} {x y : Operand} {a b : AV} {u v : Value} {r : Bool} (w : World) (hu : P.underlying t = some (.map k e)) (ha : VR ρ a u) (hb : VR ρ b v) (he : eqV .map a b = some r) (hq : isEq op = true) :
    (do eqGuard op t x y u v; binOp op t u v : Sem Value).run P w = .ok (.bool (if op = .neq then !r else r)) w := by
  unfold eqV at he
  split at he <;> simp only [reduceCtorEq] at * <;> try (cases he; done)
  all_goals (cases ha <;> cases hb)
  all_goals (simp only [Option.some.injEq] at he; subst he; exact eq_fin hq rfl rfl (guard_ok trivial) (equal_of (fun d => by unfold Op.equalIn; simp only [Sem.run_bind, run_underlying hu, Result.andThen_ok, Option.isNone_none, Option.isNone_some]; rfl)))
theorem eqV_func {ρ : Ren} {t : Nat} {ps rs : Array Nat} {vr : Bool} {op : BinOp} {x y : Operand} {a b : AV} {u v : Value} {r : Bool} (w : World) (hu : P.underlying t = some (.func ps rs vr)) (ha : VR ρ a u) (hb : VR ρ b v) (he : eqV .func a b = some r) (hq : isEq op = true) :
    (do eqGuard op t x y u v; binOp op t u v : Sem Value).run P w = .ok (.bool (if op = .neq then !r else r)) w := by
  unfold eqV at he
  split at he <;> simp only [reduceCtorEq] at * <;> try (cases he; done)
  all_goals (cases ha <;> cases hb)
  all_goals (simp only [Option.some.injEq] at he; subst he; exact eq_fin hq rfl rfl (guard_ok trivial) (equal_of (fun d => by unfold Op.equalIn; simp only [Sem.run_bind, run_underlying hu, Result.andThen_ok]; rfl)))
theorem eqV_iface {ρ : Ren} {t : Nat} {ms : Array (String × Nat)} {op : BinOp} {x y : Operand} {cst : Bool} {a b : AV} {u v : Value} {r : Bool} (w : World) (hu : P.underlying t = some (.interface ms)) (hcst : cst = (isC x || isC y)) (ha : VR ρ a u) (hb : VR ρ b v) (he : eqV (.iface cst) a b = some r) (hq : isEq op = true) :
    (do eqGuard op t x y u v; binOp op t u v : Sem Value).run P w = .ok (.bool (if op = .neq then !r else r)) w := by
  unfold eqV at he
  split at he <;> simp only [EqC.iface.injEq, reduceCtorEq] at * <;> try (cases he; done)
  · cases ha; cases hb
    simp only [Option.some.injEq] at he; subst he
    rename_i hcc
    refine eq_fin hq rfl rfl ?_ (equal_of (fun d => by unfold Op.equalIn; simp only [Sem.run_bind, run_underlying hu, Result.andThen_ok]; rfl))
    unfold eqGuard
    have hxy : isC x = true ∨ isC y = true := by
      rw [hcc] at hcst; simpa [Bool.or_eq_true] using hcst.symm
    cases op <;> simp only [isEq, Bool.false_eq_true] at hq <;> cases x <;> cases y <;> first | rfl | (rcases hxy with h | h <;> cases h)
  all_goals (cases ha <;> cases hb)
  all_goals (simp only [Option.some.injEq] at he; subst he; exact eq_fin hq rfl rfl (guard_ok trivial) (equal_of (fun d => by unfold Op.equalIn; simp only [Sem.run_bind, run_underlying hu, Result.andThen_ok]; rfl)))

theorem eqV_ok {ρ : Ren} {t : Nat} {op : BinOp} {x y : Operand} {c : EqC} {a b : AV} {u v : Value} {r : Bool} (w : World) (hc : eqC P t x y = some c) (ha : VR ρ a u) (hb : VR ρ b v) (he : eqV c a b = some r) (hq : isEq op = true) :
    (do eqGuard op t x y u v; binOp op t u v : Sem Value).run P w = .ok (.bool (if op = .neq then !r else r)) w := by
  unfold eqC at hc
  cases hu : P.underlying t with
  | none => rw [hu] at hc; simp only at hc; unfold aggOffs at hc; rw [hu] at hc; cases hc
  | some d =>
    rw [hu] at hc
    cases d <;> simp only [Option.some.injEq] at hc <;> try (unfold aggOffs at hc; rw [hu] at hc; cases hc; done)
    case bool =>
      subst hc
      unfold eqV at he
      split at he <;> simp only [reduceCtorEq] at * <;> try (cases he; done)
      cases ha; cases hb
      simp only [Option.some.injEq, eqB_eq] at he; subst he
      exact eq_fin hq rfl rfl (guard_ok trivial) (run_equal_bool w t _ _ hu)
    case pointer e => subst hc; exact eqV_ptr w hu ha hb he hq
    case slice e => subst hc; exact eqV_slc w hu ha hb he hq
    case map k e => subst hc; exact eqV_map w hu ha hb he hq
    case func ps rs vr => subst hc; exact eqV_func w hu ha hb he hq
    case interface ms => subst hc; exact eqV_iface w hu rfl ha hb he hq
    case struct fs =>
      cases hao : aggOffs P t with
      | none => rw [hao] at hc; cases hc
      | some o =>
        rw [hao] at hc
        simp only [Option.some.injEq] at hc; subst hc
        unfold eqV at he
        split at he <;> simp only [EqC.agg.injEq, reduceCtorEq] at * <;> try (cases he; done)
        cases ha; cases hb
        rename_i heq _ h2 _ h3
        subst heq
        exact eq_fin hq (by simp only [binOp]) (by simp only [binOp]) (run_eqGuard_agg w op t x y _ _ (aggOffs_of hao).2.2.1) (eqAgg_ok w hao h2 h3 he)
end
end Hx
