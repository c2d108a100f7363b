/- The evaluator: worldless operations: the theorem. -/
import Derived.Test.YtopkkjgjohgogaaGreatDoorHxF
import Derived.Laws.Runes
namespace Hx
open Go

section
variable {P : Program}

theorem minI_cons (gt : Bool) (y : AV) (l : List AV) (k : IntKind) (n : Int) : minI gt (y :: l) (.int k n) = (match y with | .int _ b => minI gt l (.int k (bif (bif gt then ltI n b else ltI b n) then b else n)) | _ => none) := by cases y <;> rfl

theorem minI_ok {ρ : Ren} {w : World} : ∀ (l : List AV) (us : List Value) (gt : Bool) (k : IntKind) (n : Int) (v : AV), VRs ρ l us → minI gt l (.int k n) = some v →
    ∃ vc, (us.foldlM (if gt then Builtin.max2 else Builtin.min2) (.int k n)).run P w = .ok vc w ∧ VR ρ v vc
  | [], us, gt, k, n, v, hl, h => by
    cases hl
    simp only [minI, Option.some.injEq] at h; subst h
    exact ⟨_, rfl, .int _ _⟩
  | y :: l, us, gt, k, n, v, hl, h => by
    cases hl with
    | cons _ u _ us hy hl =>
      rw [minI_cons] at h
      cases hy <;> simp only [reduceCtorEq] at h
      rename_i k' b
      obtain ⟨vc, h1, h2⟩ := minI_ok l us gt k _ v hl h
      refine ⟨vc, ?_, h2⟩
      rw [List.foldlM_cons, Sem.run_bind]
      have e : ((if gt then Builtin.max2 else Builtin.min2) (.int k n) (.int k' b)).run P w = .ok (.int k (bif (bif gt then ltI n b else ltI b n) then b else n)) w := by
        rw [ltI_eq, ltI_eq]
        cases gt
        · simp only [Bool.false_eq_true, if_false, cond_false, Builtin.min2, Sem.run_pure]
          by_cases hb : b < n <;> simp [hb]
        · simp only [if_true, cond_true, Builtin.max2, Sem.run_pure]
          by_cases hb : n < b <;> simp [hb]
      rw [e]
      exact h1

theorem sound_p {o : Oper} {ds : List (Option Nat)} {pop : POp} {F : Fr} {L : List AV} {v : AV} {a : Act} {w : World} {ρ : Ren} (hc : compOp P ds o = .p pop)
    (hx : ∀ x ∈ o.op.operands, VR ρ (ev F L (co ds x)) (a.eval x)) (hv : popX pop F L = some v) : ∃ vc, (execOp a.eval o).run P w = .ok (.value vc) w ∧ VR ρ v vc := by
  obtain ⟨dst, op, type, pos, after, guard⟩ := o
  cases op <;> simp only [compOp, XOp.p.injEq, reduceCtorEq] at hc
  case move x =>
    subst hc
    have hv : some (ev F L (co ds x)) = some v := hv
    simp only [Option.some.injEq] at hv; subst hv
    exact ⟨_, rfl, hx x (by simp [Op.operands])⟩
  case assign x =>
    subst hc
    have hv : some (ev F L (co ds x)) = some v := hv
    simp only [Option.some.injEq] at hv; subst hv
    exact ⟨_, rfl, hx x (by simp [Op.operands])⟩
  case pick c x y =>
    subst hc
    have hv : (match ev F L (co ds c) with | .bool t => some (Bool.rec (motive := fun _ => AV) (ev F L (co ds y)) (ev F L (co ds x)) t) | _ => none) = some v := hv
    have h1 := hx c (by simp [Op.operands])
    have h2 := hx x (by simp [Op.operands])
    have h3 := hx y (by simp [Op.operands])
    generalize ev F L (co ds c) = cv at hv h1
    cases cv <;> simp only [reduceCtorEq, Option.some.injEq] at hv
    rename_i b
    generalize hq : a.eval c = q at h1
    cases h1
    subst hv
    refine ⟨if b then a.eval x else a.eval y, ?_, ?_⟩
    · simp [execOp, hq, asBool]
    · cases b
      · exact h3
      · exact h2
  case alloc e => split at hc <;> cases hc
  case build t ps =>
    obtain ⟨vc, h1, h2⟩ := build_ok (w := w) (g := a.eval) (ρ := ρ) hc hv (fun p hp => hx p.2 (by simp only [Op.operands, List.mem_toArray, List.mem_map]; exact ⟨p, hp, rfl⟩))
    refine ⟨vc, exec_v ?_, h2⟩
    rw [← h1]
    congr 2
    apply Array.ext'
    simp
  case buildSlice t n ps => exfalso; unfold compBslice at hc; simp only [Bool.cond_eq_ite] at hc; (repeat' split at hc) <;> cases hc
  case load t x => exfalso; (repeat' split at hc) <;> cases hc
  case store t x y => exfalso; (repeat' split at hc) <;> cases hc
  case nilCheck x =>
    subst hc
    have hv : (match ev F L (co ds x) with | .bot | .nilp | .nili | .nilf => none | v => some v) = some v := hv
    have h1 := hx x (by simp [Op.operands])
    generalize ev F L (co ds x) = cv at hv h1
    generalize hq : a.eval x = q at h1
    refine ⟨q, ?_, ?_⟩
    · simp only [execOp, hq]
      cases h1 <;> simp only [reduceCtorEq, Option.some.injEq] at hv <;> rfl
    · cases cv <;> simp only [reduceCtorEq, Option.some.injEq] at hv <;> subst hv <;> exact h1
  case binOp bop t x y yt =>
    have h1 := hx x (by simp [Op.operands])
    have h2 := hx y (by simp [Op.operands])
    cases hb : (isEq bop && noSc (scT P t)) with
    | true =>
      rw [hb] at hc
      simp only [cond_true] at hc
      cases he : eqC P t x y with
      | none => rw [he] at hc; cases hc
      | some c =>
        rw [he] at hc
        simp only [XOp.p.injEq] at hc; subst hc
        have hv : (match eqV c (ev F L (co ds x)) (ev F L (co ds y)) with | some b => some (AV.bool (Bool.rec (motive := fun _ => Bool) b (!b) (isNe bop))) | none => none) = some v := hv
        cases hr : eqV c (ev F L (co ds x)) (ev F L (co ds y)) with
        | none => rw [hr] at hv; cases hv
        | some r =>
          rw [hr] at hv
          simp only [Option.some.injEq] at hv; subst hv
          have hq : isEq bop = true := by simp only [Bool.and_eq_true] at hb; exact hb.1
          refine ⟨_, exec_v (eqV_ok w he h1 h2 hr hq), ?_⟩
          cases bop <;> simp only [isEq, Bool.false_eq_true] at hq <;> exact .bool _
    | false =>
      rw [hb] at hc
      simp only [cond_false, XOp.p.injEq] at hc; subst hc
      have hv : binV bop (ev F L (co ds x)) (ev F L (co ds y)) = some v := hv
      generalize ev F L (co ds x) = xa at hv h1
      generalize ev F L (co ds y) = ya at hv h2
      generalize hxq : a.eval x = xq at h1
      generalize hyq : a.eval y = yq at h2
      unfold binV at hv
      split at hv
      · rename_i k p k' q
        cases h1; cases h2
        have hg : (eqGuard bop t x y (.int k p) (.int k' q)).run P w = .ok () w := guard_ok trivial
        have fin : ∀ vc, (binOp bop t (.int k p) (.int k' q)).run P w = .ok vc w → (execOp a.eval ⟨dst, .binOp bop t x y yt, type, pos, after, guard⟩).run P w = .ok (.value vc) w := fun vc h => by
          simp only [execOp, hxq, hyq]; exact exec_v (by rw [Sem.run_bind, hg]; exact h)
        cases hs : isSh bop with
        | true =>
          rw [hs] at hv; simp only [cond_true] at hv
          obtain ⟨vc, e1, e2⟩ := shI_ok (P := P) (w := w) (t := t) (k' := k') ρ hv
          exact ⟨vc, fin vc e1, e2⟩
        | false =>
          rw [hs] at hv; simp only [cond_false] at hv
          rw [eqK_eq] at hv
          by_cases hk : k = k'
          · subst hk
            simp only [decide_true, cond_true] at hv
            obtain ⟨vc, e1, e2⟩ := binI_ok (P := P) (w := w) (t := t) ρ hv hs
            exact ⟨vc, fin vc e1, e2⟩
          · simp [hk] at hv
      · cases h1; cases h2
        rename_i s1 h1 s2 h2
        obtain ⟨vc, e1, e2⟩ := binS_ok (P := P) (w := w) (t := t) ρ h1 h2 hv
        refine ⟨vc, ?_, e2⟩
        simp only [execOp, hxq, hyq]
        exact exec_v (by rw [Sem.run_bind, guard_ok trivial]; exact e1)
      · cases hv
  case unOp uop t x =>
    subst hc
    have hv : unV uop (ev F L (co ds x)) = some v := hv
    have h1 := hx x (by simp [Op.operands])
    generalize ev F L (co ds x) = cv at hv h1
    generalize hq : a.eval x = q at h1
    unfold unV at hv
    split at hv
    · cases h1
      simp only [Option.some.injEq, wrapK_eq, subI_eq] at hv; subst hv
      exact ⟨_, by simp only [execOp, hq]; exact exec_v rfl, .int _ _⟩
    · cases h1
      simp only [Option.some.injEq] at hv; subst hv
      exact ⟨_, by simp only [execOp, hq]; exact exec_v rfl, .int _ _⟩
    · cases h1
      simp only [Option.some.injEq] at hv; subst hv
      exact ⟨_, by simp only [execOp, hq]; exact exec_v rfl, .bool _⟩
    · cases hv
  case convert s d x =>
    have h1 := hx x (by simp [Op.operands])
    have und : ∀ {t : Nat} {dd : TypeDesc}, P.underlying t = some dd → (underlying t).run P w = .ok dd w := fun h => run_underlying h w
    split at hc
    · rename_i hs hd
      simp only [XOp.p.injEq] at hc; subst hc
      rename_i k0 k
      have hv : (match ev F L (co ds x) with | .int _ n => some (AV.int k (wrapK k n)) | _ => none) = some v := hv
      generalize ev F L (co ds x) = cv at hv h1
      generalize hq : a.eval x = q at h1
      cases cv <;> simp only [reduceCtorEq, Option.some.injEq, wrapK_eq] at hv
      cases h1; subst hv
      refine ⟨_, ?_, .int _ _⟩
      simp only [execOp, hq]
      exact exec_v (by unfold convert; simp only [Sem.run_bind, und hs, und hd, Result.andThen_ok]; rfl)
    · rename_i hs hd
      simp only [XOp.p.injEq] at hc; subst hc
      have hv : (match ev F L (co ds x) with | .int _ n => some (AV.str ((Utf8.encode n).data.toList.map UInt8.toNat)) | _ => none) = some v := hv
      generalize ev F L (co ds x) = cv at hv h1
      generalize hq : a.eval x = q at h1
      cases cv <;> simp only [reduceCtorEq, Option.some.injEq] at hv
      cases h1; subst hv
      refine ⟨_, ?_, .str _ _ rfl⟩
      simp only [execOp, hq]
      exact exec_v (by unfold convert; simp only [Sem.run_bind, und hs, und hd, Result.andThen_ok]; rfl)
    · rename_i hs hd
      simp only [XOp.p.injEq] at hc; subst hc
      have hv : slsV F L (ev F L (co ds x)) none none = some v := hv
      generalize ev F L (co ds x) = cv at hv h1
      generalize hq : a.eval x = q at h1
      cases cv <;> simp only [slsV, reduceCtorEq] at hv
      rename_i l
      cases h1
      rename_i bs hbs
      simp only [bnd, Option.some.injEq, List.drop_zero, lenN_eq, show ∀ q : Nat, Nat.sub q 0 = q from fun _ => rfl, List.take_length] at hv
      subst hv
      refine ⟨.string bs, ?_, .str _ _ hbs⟩
      simp only [execOp, hq]
      exact exec_v (by unfold convert; simp only [Sem.run_bind, und hs, und hd, Result.andThen_ok]; rfl)
    · exfalso; split at hc <;> cases hc
    · exfalso; split at hc <;> cases hc
    · cases hc
  case makeInterface t x =>
    have h1 := hx x (by simp [Op.operands])
    cases hu : P.underlying t with
    | none => rw [hu] at hc; cases hc
    | some d =>
      rw [hu] at hc
      have key : ∀ {dd : TypeDesc}, P.underlying t = some dd → (match dd with | .interface _ => False | _ => True) → (Instr.makeInterface t (a.eval x)).run P w = .ok (.iface t (a.eval x)) w := fun {dd} h hd => by
        unfold Instr.makeInterface
        simp only [Sem.run_bind, run_underlying h, Result.andThen_ok]
        cases dd <;> first | rfl | exact hd.elim
      cases d <;> simp only [reduceCtorEq, XOp.p.injEq] at hc <;> subst hc
      all_goals
        have hv : some (AV.ifc t (ev F L (co ds x))) = some v := hv
        simp only [Option.some.injEq] at hv; subst hv
        exact ⟨_, exec_v (key hu trivial), .ifc _ _ _ h1⟩
  case makeFunc fn xs ys =>
    cases fn <;> simp only [reduceCtorEq] at hc
    rename_i f
    split at hc
    · rename_i hnil
      simp only [XOp.p.injEq] at hc; subst hc
      have hv : some (AV.func f (evs F L (ys.toList.map (co ds)))) = some v := hv
      simp only [Option.some.injEq] at hv; subst hv
      have hx0 : xs = #[] := Array.ext' hnil
      subst hx0
      refine ⟨.func (.func f) #[] (ys.map a.eval), exec_v (by simp [Instr.makeFunc]), .func _ _ _ ?_⟩
      have := evs_ok (ρ := ρ) (F := F) (L := L) (ds := ds) (f := a.eval) (xs := ys.toList) (fun x h => hx x (by simpa [Op.operands] using h))
      simpa using this
    · cases hc
  case makeMap t r => exfalso; cases r <;> simp only at hc <;> (repeat' split at hc) <;> cases hc
  case makeSlice t l c => exfalso; simp only [Bool.cond_eq_ite] at hc; (repeat' split at hc) <;> cases hc
  case slice t x lo hi mx =>
    have h1 := hx x (by simp [Op.operands])
    have hlo : ∀ y, lo = some y → VR ρ (ev F L (co ds y)) (a.eval y) := fun y h => hx y (by simp [Op.operands, h])
    have hhi : ∀ y, hi = some y → VR ρ (ev F L (co ds y)) (a.eval y) := fun y h => hx y (by simp [Op.operands, h])
    have hmx : ∀ y, mx = some y → VR ρ (ev F L (co ds y)) (a.eval y) := fun y h => hx y (by simp [Op.operands, h])
    split at hc
    · rename_i e hu
      split at hc
      · rename_i sz hs
        simp only [XOp.p.injEq] at hc; subst hc
        obtain ⟨vc, e1, e2⟩ := slc_ok (P := P) (w := w) (g := a.eval) hu hs h1 hlo hhi hmx hv
        exact ⟨vc, exec_v e1, e2⟩
      · cases hc
    · rename_i hu
      split at hc
      · simp only [XOp.p.injEq] at hc; subst hc
        obtain ⟨vc, e1, e2⟩ := sls_ok (P := P) (w := w) (g := a.eval) hu h1 hlo hhi hv
        exact ⟨vc, exec_v e1, e2⟩
      · cases hc
    · cases hc
  case fieldAddr t x f =>
    have h1 := hx x (by simp [Op.operands])
    split at hc
    · rename_i fs hu
      split at hc
      · rename_i fd hfd
        split at hc
        · rename_i sz hs
          simp only [XOp.p.injEq] at hc; subst hc
          have hv : (match ev F L (co ds x) with | .ptr i o => some (AV.ptr i (Nat.add o fd.offset)) | _ => none) = some v := hv
          generalize ev F L (co ds x) = cv at hv h1
          generalize hq : a.eval x = q at h1
          cases cv <;> simp only [reduceCtorEq, Option.some.injEq] at hv
          subst hv
          have run : ∀ ad : Addr, q = .pointer (some ad) → (execOp a.eval ⟨dst, .fieldAddr t x f, type, pos, after, guard⟩).run P w = .ok (.value (.pointer (some (ad.add fd.offset)))) w := by
            rintro ad rfl
            simp only [execOp, hq]
            refine exec_v ?_
            unfold Instr.fieldAt fieldPlace
            simp only [Sem.run_bind, run_underlying hu, Result.andThen_ok, hfd, Instr.sureAddr, Sem.run_pure, sizeOf_ok hs w, Nat.add_one_ne_zero, if_false]
          cases h1 with
          | ptr i off b n hl => exact ⟨_, run _ rfl, by rw [add_eq]; exact .ptr _ _ _ n hl⟩
          | ptrd i off ad hl => exact ⟨_, run _ rfl, .ptrd _ _ _ hl⟩
        · cases hc
      · cases hc
    · cases hc
  case field t x f =>
    have h1 := hx x (by simp [Op.operands])
    split at hc
    · rename_i fs hu
      split at hc
      · rename_i fd hfd
        split at hc
        · rename_i n hs
          have agg : ∀ (cs : Array Value) (u : Value), a.eval x = .agg cs → (part fd.type cs fd.offset).run P w = .ok u w → (execOp a.eval ⟨dst, .field t x f, type, pos, after, guard⟩).run P w = .ok (.value u) w := by
            intro cs u hq h
            simp only [execOp, hq]
            refine exec_v ?_
            unfold Instr.field
            simp only [Sem.run_bind, run_underlying hu, Result.andThen_ok, hfd, asAgg, Sem.run_pure, h]
          have big : ∀ pop', pop = pop' → pop' = .fln fd.offset n (co ds x) → (∀ cs : Array Value, (part fd.type cs fd.offset).run P w = .ok (.agg (cs.extract fd.offset (fd.offset + n))) w) → ∃ vc, (execOp a.eval ⟨dst, .field t x f, type, pos, after, guard⟩).run P w = .ok (.value vc) w ∧ VR ρ v vc := by
            rintro _ rfl rfl hp
            have hv : (match ev F L (co ds x) with | .agg l => some (AV.agg ((l.drop fd.offset).take n)) | _ => none) = some v := hv
            generalize ev F L (co ds x) = cv at hv h1
            generalize hq : a.eval x = q at h1
            cases cv <;> simp only [reduceCtorEq, Option.some.injEq] at hv
            subst hv
            cases h1
            rename_i cs hcs
            refine ⟨_, agg cs _ hq (hp cs), .agg _ _ ?_⟩
            have := (hcs.drop fd.offset).take n
            simpa [Array.toList_extract, List.extract_eq_take_drop] using this
          cases hd : P.underlying fd.type with
          | none => rw [hd] at hc; cases hc
          | some d =>
            rw [hd] at hc
            have iagg : (isAgg fd.type).run P w = .ok (match d with | .struct _ | .array _ _ => true | _ => false) w := by
              unfold isAgg
              simp only [Sem.run_bind, run_underlying hd, Result.andThen_ok]
              cases d <;> rfl
            cases d <;> simp only [XOp.p.injEq] at hc
            case struct => exact big _ rfl hc.symm (fun cs => by unfold part; simp only [Sem.run_bind, iagg, Result.andThen_ok, if_true, sizeOf_ok hs w, Sem.run_pure])
            case array => exact big _ rfl hc.symm (fun cs => by unfold part; simp only [Sem.run_bind, iagg, Result.andThen_ok, if_true, sizeOf_ok hs w, Sem.run_pure])
            all_goals
              subst hc
              have hv : (match ev F L (co ds x) with | .agg l => l[fd.offset]? | _ => none) = some v := hv
              generalize ev F L (co ds x) = cv at hv h1
              generalize hq : a.eval x = q at h1
              cases cv <;> simp only [reduceCtorEq] at hv
              cases h1
              rename_i cs hcs
              obtain ⟨u, hu', hr⟩ := hcs.get hv
              refine ⟨u, agg cs u hq ?_, hr⟩
              unfold part
              have hu2 : cs[fd.offset]? = some u := by simpa using hu'
              simp only [Sem.run_bind, iagg, Result.andThen_ok, Bool.false_eq_true, if_false, hu2, Sem.run_pure]
        · cases hc
      · cases hc
    · cases hc
  case indexAddr t x ix =>
    have h1 := hx x (by simp [Op.operands])
    have h2 := hx ix (by simp [Op.operands])
    split at hc
    · rename_i e hu
      split at hc
      · rename_i sz hs
        simp only [XOp.p.injEq] at hc; subst hc
        have hv : (match ev F L (co ds x) with
          | .sl b off len _ z => (match nat? (ev F L (co ds ix)) with
            | some n => bif Nat.blt n len && Nat.beq z (sz + 1) then some (AV.ptr b (Nat.add off (Nat.mul n (sz + 1)))) else none
            | none => none)
          | _ => none) = some v := hv
        generalize ev F L (co ds x) = cv at hv h1
        generalize hq : a.eval x = q at h1
        cases cv <;> simp only [reduceCtorEq] at hv
        rename_i i off len cap z
        cases hn : nat? (ev F L (co ds ix)) with
        | none => rw [hn] at hv; cases hv
        | some n =>
          rw [hn] at hv; simp only at hv
          rw [blt_nat, beq_nat] at hv
          by_cases hb : n < len ∧ z = sz + 1
          · obtain ⟨hb1, rfl⟩ := hb
            simp only [hb1, decide_true, Bool.and_self, cond_true, Option.some.injEq] at hv
            subst hv
            obtain ⟨k, hk⟩ := nat?_ok h2 hn
            have run : ∀ (ad : Addr) (c : Nat), q = .slice (some ad) len c → (execOp a.eval ⟨dst, .indexAddr t x ix, type, pos, after, guard⟩).run P w = .ok (.value (.pointer (some (ad.add (n * (sz + 1)))))) w := by
              rintro ad c rfl
              simp only [execOp, hq, hk]
              refine exec_v ?_
              unfold Instr.indexAt
              simp only [asIntOf, Sem.run_bind, Sem.run_pure, run_underlying hu, Result.andThen_ok]
              rw [if_pos ⟨by omega, by omega⟩]
              simp only [Sem.run_bind, sizeOf_ok hs w, Result.andThen_ok, Sem.run_pure, Int.toNat_natCast]
            cases h1 with
            | sl _ _ _ _ _ b m c hl => exact ⟨_, run _ _ rfl, by rw [add_eq]; exact .ptr _ _ _ m hl⟩
            | sld _ _ _ _ _ ad c hl => exact ⟨_, run _ _ rfl, .ptrd _ _ _ hl⟩
            | slz => omega
          · have : (decide (n < len) && decide (z = sz + 1)) = false := by
              rw [Bool.and_eq_false_iff]
              by_cases h : n < len
              · exact .inr (by simpa using fun e => hb ⟨h, e⟩)
              · exact .inl (by simpa using h)
            rw [this] at hv; cases hv
      · cases hc
    · rename_i m e hu
      split at hc
      · rename_i sz hs
        simp only [XOp.p.injEq] at hc; subst hc
        have hv : (match ev F L (co ds x) with
          | .ptr b off => (match nat? (ev F L (co ds ix)) with
            | some n => bif Nat.blt n m then some (AV.ptr b (Nat.add off (Nat.mul n (sz + 1)))) else none
            | none => none)
          | _ => none) = some v := hv
        generalize ev F L (co ds x) = cv at hv h1
        generalize hq : a.eval x = q at h1
        cases cv <;> simp only [reduceCtorEq] at hv
        rename_i i off
        cases hn : nat? (ev F L (co ds ix)) with
        | none => rw [hn] at hv; cases hv
        | some n =>
          rw [hn] at hv; simp only at hv
          rw [blt_nat] at hv
          by_cases hb : n < m
          · simp only [hb, decide_true, cond_true, Option.some.injEq] at hv
            subst hv
            obtain ⟨k, hk⟩ := nat?_ok h2 hn
            have run : ∀ (ad : Addr), q = .pointer (some ad) → (execOp a.eval ⟨dst, .indexAddr t x ix, type, pos, after, guard⟩).run P w = .ok (.value (.pointer (some (ad.add (n * (sz + 1)))))) w := by
              rintro ad rfl
              simp only [execOp, hq, hk]
              refine exec_v ?_
              unfold Instr.indexAt
              simp only [asIntOf, Sem.run_bind, Sem.run_pure, run_underlying hu, Result.andThen_ok, Instr.sureAddr]
              rw [if_pos ⟨by omega, by omega⟩]
              simp only [Sem.run_bind, sizeOf_ok hs w, Result.andThen_ok, Sem.run_pure, Int.toNat_natCast]
            cases h1 with
            | ptr _ _ b k hl => exact ⟨_, run _ rfl, by rw [add_eq]; exact .ptr _ _ _ k hl⟩
            | ptrd _ _ ad hl => exact ⟨_, run _ rfl, .ptrd _ _ _ hl⟩
          · simp [hb] at hv
      · cases hc
    · cases hc
  case index t x ix =>
    have h1 := hx x (by simp [Op.operands])
    have h2 := hx ix (by simp [Op.operands])
    split at hc
    · rename_i hu
      simp only [XOp.p.injEq] at hc; subst hc
      have hv : (match ev F L (co ds x) with
        | .str s => (match nat? (ev F L (co ds ix)) with
          | some n => (match s.drop n with
            | b :: _ => some (AV.int .u8 (Int.ofNat b))
            | [] => none)
          | none => none)
        | _ => none) = some v := hv
      generalize ev F L (co ds x) = cv at hv h1
      generalize hq : a.eval x = q at h1
      cases cv <;> simp only [reduceCtorEq] at hv
      rename_i l
      cases h1
      rename_i bs hbs
      cases hn : nat? (ev F L (co ds ix)) with
      | none => rw [hn] at hv; cases hv
      | some n =>
        rw [hn] at hv; simp only at hv
        obtain ⟨k, hk⟩ := nat?_ok h2 hn
        cases hd : l.drop n with
        | nil => rw [hd] at hv; cases hv
        | cons b tl =>
          rw [hd] at hv; simp only [Option.some.injEq] at hv; subst hv
          have hlt : n < l.length := by
            rcases Nat.lt_or_ge n l.length with h | h
            · exact h
            · rw [List.drop_eq_nil_of_le h] at hd; cases hd
          have hb : l[n] = b := by rw [List.drop_eq_getElem_cons hlt] at hd; exact (List.cons.inj hd).1
          have hlen : bs.size = l.length := by rw [← hbs]; simp
          have hget : bs[n]? = some (bs[n]'(by omega)) := getElem?_pos bs n (by omega)
          have hbv : (bs[n]'(by omega)).toNat = b := by
            rw [← hb]
            subst hbs
            simp only [List.getElem_map, Array.getElem_toList]
            rfl
          refine ⟨.int .u8 ((bs[n]'(by omega)).toNat : Int), ?_, by rw [hbv]; exact .int _ _⟩
          simp only [execOp, hq, hk]
          refine exec_v ?_
          unfold Instr.index
          simp only [asIntOf, Sem.run_bind, Sem.run_pure, run_underlying hu, Result.andThen_ok]
          rw [if_pos (by omega : (0 : Int) ≤ (n : Int))]
          simp only [Int.toNat_natCast, hget, Sem.run_pure]
    · cases hc
  case lookup t x ix ok => exfalso; (repeat' split at hc) <;> cases hc
  case mapUpdate t x y z => exfalso; (repeat' split at hc) <;> cases hc
  case insert t x y z => exfalso; (repeat' split at hc) <;> cases hc
  case range t x => exfalso; (repeat' split at hc) <;> cases hc
  case extract x i =>
    have h1 := hx x (by simp [Op.operands])
    subst hc
    have hv : (match ev F L (co ds x) with | .tup l => l[i]? | _ => none) = some v := hv
    generalize ev F L (co ds x) = cv at hv h1
    generalize hq : a.eval x = q at h1
    cases cv <;> simp only [reduceCtorEq] at hv
    cases h1
    rename_i cs hcs
    obtain ⟨u, hu, hr⟩ := hcs.get hv
    refine ⟨u, ?_, hr⟩
    simp only [execOp, hq]
    refine exec_v ?_
    unfold Instr.extract
    have hu2 : cs[i]? = some u := by simpa using hu
    simp only [hu2, Sem.run_pure]
  case call c =>
    obtain ⟨callee, args, argTypes⟩ := c
    cases callee with
    | value f => cases f <;> simp only [reduceCtorEq] at hc
    | invoke r m => simp only [reduceCtorEq] at hc
    | builtin b =>
      simp only at hc
      have hargs : ∀ x ∈ args.toList, VR ρ (ev F L (co ds x)) (a.eval x) := fun x h => hx x (by simp only [Op.operands, Call.operands]; simpa using h)
      have run : ∀ vc, (builtin b argTypes type (args.map fun | .const _ => true | _ => false) (args.map a.eval)).run P w = .ok (.value vc) w → (execOp a.eval ⟨dst, .call ⟨.builtin b, args, argTypes⟩, type, pos, after, guard⟩).run P w = .ok (.value vc) w := fun vc h => by
        simp only [execOp, resolve, Sem.run_bind, Sem.run_pure, Result.andThen_ok, invoke]
        exact h
      obtain ⟨al⟩ := args
      obtain ⟨tl⟩ := argTypes
      simp only at hc hargs
      unfold compBuiltin at hc
      split at hc
      · rename_i x
        split at hc
        · rename_i t ts
          have h1 := hargs x (by simp)
          split at hc
          · rename_i hu
            simp only [XOp.p.injEq] at hc; subst hc
            have hv : (match ev F L (co ds x) with | .str s => some (AV.int .i64 (Int.ofNat (lenN s))) | _ => none) = some v := hv
            generalize ev F L (co ds x) = cv at hv h1
            generalize hq : a.eval x = q at h1
            cases cv <;> simp only [reduceCtorEq, Option.some.injEq] at hv
            rename_i l
            cases h1
            rename_i bs hbs
            subst hv
            refine ⟨.int .i64 (bs.size : Int), run _ ?_, ?_⟩
            · simp only [builtin]
              refine exec_v ?_
              unfold Builtin.len_
              simp [hq, run_underlying hu, goInt]
            · rw [lenN_eq]; have : bs.size = l.length := by rw [← hbs]; simp
              rw [this]; exact .int _ _
          · rename_i e hu
            simp only [XOp.p.injEq] at hc; subst hc
            have hv : (match ev F L (co ds x) with
              | .nils => some (AV.int .i64 (Int.ofNat 0))
              | .sl _ _ n _ _ => some (.int .i64 (Int.ofNat n))
              | _ => none) = some v := hv
            generalize ev F L (co ds x) = cv at hv h1
            generalize hq : a.eval x = q at h1
            have fin : ∀ (ad : Option Addr) (n c : Nat), q = .slice ad n c → (execOp a.eval ⟨dst, .call ⟨.builtin .len, ⟨[x]⟩, ⟨t :: ts⟩⟩, type, pos, after, guard⟩).run P w = .ok (.value (.int .i64 (n : Int))) w := by
              rintro ad n c rfl
              refine run _ ?_
              simp only [builtin]
              refine exec_v ?_
              unfold Builtin.len_
              simp [hq, run_underlying hu, goInt]
            cases h1 <;> simp only [reduceCtorEq, Option.some.injEq] at hv <;> subst hv <;> exact ⟨_, fin _ _ _ rfl, .int _ _⟩
          · cases hc
          · rename_i n e hu
            simp only [XOp.p.injEq] at hc; subst hc
            have hv : some (AV.int .i64 (Int.ofNat n)) = some v := hv
            simp only [Option.some.injEq] at hv; subst hv
            refine ⟨.int .i64 (n : Int), run _ ?_, .int _ _⟩
            simp only [builtin]
            refine exec_v ?_
            unfold Builtin.len_
            simp [run_underlying hu, goInt]
          · cases hc
        · cases hc
      · rename_i x
        split at hc
        · rename_i t ts
          have h1 := hargs x (by simp)
          split at hc
          · rename_i e hu
            simp only [XOp.p.injEq] at hc; subst hc
            have hv : (match ev F L (co ds x) with | .nils => some (AV.int .i64 (Int.ofNat 0)) | _ => none) = some v := hv
            generalize ev F L (co ds x) = cv at hv h1
            generalize hq : a.eval x = q at h1
            cases cv <;> simp only [reduceCtorEq, Option.some.injEq] at hv
            cases h1
            subst hv
            refine ⟨.int .i64 0, run _ ?_, .int _ _⟩
            simp only [builtin]
            refine exec_v ?_
            unfold Builtin.cap_
            simp [hq, run_underlying hu, goInt]
          · cases hc
        · cases hc
      · exfalso; simp only [Bool.cond_eq_ite] at hc; (repeat' split at hc) <;> cases hc
      · simp only [XOp.p.injEq] at hc; subst hc
        have hv : (match evs F L (al.map (co ds)) with | .int k n :: l => minI false l (.int k n) | _ => none) = some v := hv
        have hl := evs_ok (ρ := ρ) (F := F) (L := L) (ds := ds) (f := a.eval) (xs := al) hargs
        generalize evs F L (al.map (co ds)) = vl at hv hl
        split at hv
        · rename_i k n l
          generalize hq : al.map a.eval = ul at hl
          cases hl with
          | cons _ u _ us h1 h2 =>
            cases h1
            obtain ⟨vc, e1, e2⟩ := minI_ok (P := P) (w := w) l us false k n v h2 hv
            refine ⟨vc, run _ ?_, e2⟩
            simp only [builtin]
            refine exec_v ?_
            unfold Builtin.min_
            simp only [List.map_toArray, hq]
            simpa using e1
        · cases hv
      · simp only [XOp.p.injEq] at hc; subst hc
        have hv : (match evs F L (al.map (co ds)) with | .int k n :: l => minI true l (.int k n) | _ => none) = some v := hv
        have hl := evs_ok (ρ := ρ) (F := F) (L := L) (ds := ds) (f := a.eval) (xs := al) hargs
        generalize evs F L (al.map (co ds)) = vl at hv hl
        split at hv
        · rename_i k n l
          generalize hq : al.map a.eval = ul at hl
          cases hl with
          | cons _ u _ us h1 h2 =>
            cases h1
            obtain ⟨vc, e1, e2⟩ := minI_ok (P := P) (w := w) l us true k n v h2 hv
            refine ⟨vc, run _ ?_, e2⟩
            simp only [builtin]
            refine exec_v ?_
            unfold Builtin.max_
            simp only [List.map_toArray, hq]
            simpa using e1
        · cases hv
      · exfalso; (repeat' split at hc) <;> cases hc
      · exfalso; (repeat' split at hc) <;> cases hc
      · exfalso; simp only [Bool.cond_eq_ite] at hc; (repeat' split at hc) <;> cases hc
      · rename_i x
        have h1 := hargs x (by simp)
        simp only [XOp.p.injEq] at hc; subst hc
        have hv : (match ev F L (co ds x) with | .nils => some AV.nilp | .sl i off _ (_ + 1) _ => some (.ptr i off) | _ => none) = some v := hv
        generalize ev F L (co ds x) = cv at hv h1
        generalize hq : a.eval x = q at h1
        have fin : ∀ (ad : Addr) (n c : Nat), c ≠ 0 → q = .slice (some ad) n c → (execOp a.eval ⟨dst, .call ⟨.builtin .unsafeSliceData, ⟨[x]⟩, ⟨tl⟩⟩, type, pos, after, guard⟩).run P w = .ok (.value (.pointer (some ad))) w := by
          rintro ad n c hne rfl
          refine run _ ?_
          simp only [builtin]
          refine exec_v ?_
          have e : Builtin.unsafeSliceData_ ⟨tl⟩ type #[Value.slice (some ad) n c] = (if c ≠ 0 then pure (.pointer (some ad)) else (do if (← viewAt ad.block).isSome then pure (.pointer (some ad)) else pure (.pointer (some ⟨← newObj (.view ad (← elemOf type)), 0, none⟩)))) := rfl
          simp only [List.map_toArray, List.map_cons, List.map_nil, hq]
          rw [e, if_pos hne]; rfl
        split at hv
        · cases h1
          simp only [Option.some.injEq] at hv; subst hv
          refine ⟨.pointer none, run _ ?_, .nilp⟩
          simp only [builtin]
          refine exec_v ?_
          simp only [List.map_toArray, List.map_cons, List.map_nil, hq]
          rfl
        · simp only [Option.some.injEq] at hv; subst hv
          cases h1 with
          | sl _ _ _ _ _ b m c hl hcc => exact ⟨_, fin _ _ _ (by omega) rfl, .ptr _ _ _ m hl⟩
          | sld _ _ _ _ _ ad c hl hcc => exact ⟨_, fin _ _ _ (by omega) rfl, .ptrd _ _ _ hl⟩
        · cases hv
      · cases hc
end
end Hx
