/- The evaluator: operations that read: the theorem. -/
import Derived.Test.YtopkkjgjohgogaaGreatDoorHxH
namespace Hx
open Go

section
variable {P : Program}

theorem isAgg_ok {t : Nat} {d : TypeDesc} (hd : P.underlying t = some d) (w : World) : (isAgg t).run P w = .ok (match d with | .struct _ | .array _ _ => true | _ => false) w := by
  unfold isAgg
  simp only [Sem.run_bind, run_underlying hd, Result.andThen_ok]
  cases d <;> rfl

theorem loadn_ok {ρ : Ren} {h : Hp} {w : World} (hw : WR ρ h w) {t n : Nat} (hs : szT P t = some n) (hagg : (isAgg t).run P w = .ok true w) {x : AV} {u : Value} (hx : VR ρ x u) {v : AV}
    (hv : ldnV n x h = some v) :
    ∃ vc a, u = .pointer (some a) ∧ (loadVar t a).run P w = .ok vc w ∧ VR ρ v vc := by
  cases x <;> simp only [ldnV, reduceCtorEq] at hv
  rename_i i off
  cases hc : cellsAt h i off n with
  | none => rw [hc] at hv; cases hv
  | some l =>
    rw [hc] at hv; simp only [Option.some.injEq] at hv; subst hv
    obtain ⟨h1, h2⟩ := cellsAt_ok hw hc
    cases hx with
    | ptrd _ _ a hd => exact absurd hd h2
    | ptr _ _ b m hl =>
      obtain ⟨vs, g1, g2, g3⟩ := h1 b m hl
      refine ⟨.agg vs.toArray, _, rfl, ?_, .agg _ _ (by simpa using g1)⟩
      unfold loadVar
      simp only [Sem.run_bind, hagg, Result.andThen_ok, if_true, sizeOf_ok hs w, Sem.run_pure]
      have := run_loadCells_list (P := P) w ⟨b, off, none⟩ vs (fun j v hj => by rw [add_eq]; exact g3 j v hj)
      rw [g2] at this
      rw [this]; rfl

theorem load1_ok {ρ : Ren} {h : Hp} {w : World} (hw : WR ρ h w) {t : Nat} (hagg : (isAgg t).run P w = .ok false w) {x : AV} {u : Value} (hx : VR ρ x u) {v : AV}
    (hv : ld1V x h = some v) :
    ∃ vc a, u = .pointer (some a) ∧ (loadVar t a).run P w = .ok vc w ∧ VR ρ v vc := by
  cases x <;> simp only [ld1V, reduceCtorEq] at hv
  rename_i i off
  split at hv
  · rename_i c top wr hb
    cases hlt : Nat.blt off top with
    | false => rw [hlt] at hv; cases hv
    | true =>
      rw [hlt] at hv; simp only [cond_true] at hv
      rw [blt_nat] at hlt; simp only [decide_eq_true_eq] at hlt
      cases hx with
      | ptrd _ _ a hd => exact absurd (hw.dead i _ hd hb) (by simp)
      | ptr _ _ b m hl =>
        obtain ⟨cc, e, fr, hc, _, _, hval, _⟩ := hw.cells hl hb
        obtain ⟨vc, h1, h2⟩ := hval off v hlt hv
        refine ⟨vc, _, rfl, ?_, h2⟩
        unfold loadVar
        simp only [Sem.run_bind, hagg, Result.andThen_ok, Bool.false_eq_true, if_false, run_load]
        simp [World.cell?, hc, h1]
  · cases hv

theorem mapAt_ok {ρ : Ren} {h : Hp} {w : World} (hw : WR ρ h w) {x : AV} {u : Value} (hx : VR ρ x u) {es : List (AV × AV)} (hm : mapAt h x = some es) :
    (u = .map none ∧ es = []) ∨ ∃ i b n ces clock, x = .map i ∧ u = .map (some b) ∧ ρ i = .live b n ∧ w.heap[b]? = some (.map ces clock) ∧ MRp ρ es ces.toList ∧ ∀ e ∈ ces.toList, e.born < clock := by
  unfold mapAt at hm
  split at hm
  · cases hx; simp only [Option.some.injEq] at hm; exact .inl ⟨rfl, hm.symm⟩
  · rename_i r
    split at hm
    · rename_i es' ver hb
      simp only [Option.some.injEq] at hm; subst hm
      cases hx with
      | mapd _ _ hd => exact absurd (hw.dead r _ hd hb) (by simp)
      | map _ b n hl =>
        obtain ⟨o, ho, ces, clock, rfl, h1, h2, _⟩ := hw.blk r b n _ hl hb
        exact .inr ⟨r, b, n, ces, clock, rfl, rfl, hl, ho, h1, h2⟩
    · rename_i es' hb
      simp only [Option.some.injEq] at hm; subst hm
      cases hx with
      | mapd _ _ hd => exact absurd (hw.dead r _ hd hb) (by simp)
      | map _ b n hl =>
        obtain ⟨o, ho, ces, clock, rfl, h1, h2, _⟩ := hw.blk r b n _ hl hb
        exact .inr ⟨r, b, n, ces, clock, rfl, rfl, hl, ho, h1, h2⟩
    · cases hm
  · cases hm

theorem find_born {ces : Array MapEntry} {e : MapEntry} (hpw : ces.toList.Pairwise fun a b => a.born < b.born) (hmem : e ∈ ces.toList) : ces.find? (fun x => x.born == e.born) = some e := by
  rw [← Array.find?_toList]
  generalize ces.toList = l at hpw hmem
  induction l with
  | nil => cases hmem
  | cons x l ih =>
    rw [List.find?_cons]
    rw [List.pairwise_cons] at hpw
    rcases List.mem_cons.1 hmem with rfl | hm
    · simp
    · have := hpw.1 e hm
      have hne : (x.born == e.born) = false := by simpa using Nat.ne_of_lt this
      rw [hne]
      exact ih hpw.2 hm

theorem getObj_ok {w : World} {b : Nat} {o : Obj} (ho : w.heap[b]? = some o) (hn : ∀ c e f, o ≠ .cells c e f) : (getObj b).run P w = .ok o w := by
  unfold getObj
  simp only [Sem.run, ho]

/-- bytes as the model's values -/
def bV (bs : List Nat) : List Value := bs.map (fun (b : Nat) => Value.int .u8 (b : Int))

theorem bytes?_ok {ρ : Ren} : ∀ {l : List AV} {vs : List Value} {bs : List Nat}, VRs ρ l vs → bytes? l = some bs → vs = bV bs ∧ ∀ b ∈ bs, b < 256
  | [], _, bs, hl, h => by
    cases hl
    have : bs = [] := by simpa [bytes?] using h.symm
    subst this; simp [bV]
  | x :: l, vs, bs, hl, h => by
    cases hl with
    | cons _ v _ vs hx hl =>
      have h' : (fun y => (match y with
        | AV.int .u8 (.ofNat b) => (match bytes? l with
          | some l => bif Nat.blt b 256 then some (b :: l) else none
          | none => none)
        | _ => none)) x = some bs := h
      simp only at h'
      split at h'
      · rename_i b
        cases hx
        cases hr : bytes? l with
        | none => rw [hr] at h'; cases h'
        | some r =>
          rw [hr] at h'; simp only at h'
          rw [blt_nat] at h'
          by_cases hb : b < 256
          · simp only [hb, decide_true, cond_true, Option.some.injEq] at h'
            subst h'
            obtain ⟨g1, g2⟩ := bytes?_ok hl hr
            subst g1
            exact ⟨rfl, fun y hy => by rcases List.mem_cons.1 hy with rfl | hy; exact hb; exact g2 y hy⟩
          · simp [hb] at h'
      · cases h'

theorem bytesToString_ok {w : World} {a : Addr} {len cap : Nat} {bs : List Nat} (hb : ∀ b ∈ bs, b < 256)
    (hr : (loadCells a len).run P w = .ok (bV bs).toArray w) :
    ∃ s : ByteArray, (Conv.bytesToString (.slice (some a) len cap)).run P w = .ok (.string s) w ∧ s.data.toList.map UInt8.toNat = bs := by
  unfold Conv.bytesToString
  simp only [Sem.run_bind, hr, Result.andThen_ok]
  rw [← Array.forIn_toList]
  simp only
  have key : ∀ (bs : List Nat) (s : ByteArray), (∀ b ∈ bs, b < 256) → ∃ s' : ByteArray, (forIn (bV bs) s (fun (c : Value) (r : ByteArray) => (match c with
      | Value.int .u8 n => pure (ForInStep.yield (r.push (UInt8.ofNat n.toNat)))
      | _ => (do
        stuck "bytesToString: byte expected"
        pure (ForInStep.yield r)) : Sem (ForInStep ByteArray)))).run P w = Result.ok s' w ∧ s'.data.toList.map UInt8.toNat = s.data.toList.map UInt8.toNat ++ bs := by
    intro bs
    induction bs with
    | nil => intro s _; exact ⟨s, rfl, by simp⟩
    | cons b bs ih =>
      intro s hb
      obtain ⟨s', h1, h2⟩ := ih (s.push (UInt8.ofNat b)) (fun x hx => hb x (by simp [hx]))
      refine ⟨s', ?_, ?_⟩
      · unfold bV
        rw [List.map_cons, List.forIn_cons]
        simp only [Sem.run_bind, Sem.run_pure, Result.andThen_ok, Int.toNat_natCast]
        exact h1
      · rw [h2]
        have : b < 256 := hb b (by simp)
        simp [ByteArray.push, UInt8.toNat_ofNat', Nat.mod_eq_of_lt this]
  obtain ⟨s', h1, h2⟩ := key bs .empty hb
  refine ⟨s', ?_, by simpa using h2⟩
  have := congrArg (fun r : Result ByteArray => r.andThen fun a w' => Sem.run P (pure (Value.string a)) w') h1
  exact this.trans rfl

theorem sound_l {o : Oper} {ds : List (Option Nat)} {lop : LOp} {F : Fr} {L : List AV} {v : AV} {a : Act} {w : World} {ρ : Ren} {h : Hp} (hw : WR ρ h w) (hc : compOp P ds o = .l lop)
    (hx : ∀ x ∈ o.op.operands, VR ρ (ev F L (co ds x)) (a.eval x)) (hv : lopX lop F L h = some v) : ∃ vc, (execOp a.eval o).run P w = .ok (.value vc) w ∧ VR ρ v vc := by
  obtain ⟨dst, op, type, pos, after, guard⟩ := o
  cases op <;> simp only [compOp, reduceCtorEq] at hc
  case alloc e => split at hc <;> cases hc
  case build t ps => exfalso; unfold compBuild at hc; simp only [Bool.cond_eq_ite] at hc; (repeat' split at hc) <;> cases hc
  case buildSlice t n ps => exfalso; unfold compBslice at hc; simp only [Bool.cond_eq_ite] at hc; (repeat' split at hc) <;> cases hc
  case load t x =>
    have h1 := hx x (by simp [Op.operands])
    cases hs : szT P t with
    | none => rw [hs] at hc; cases hc
    | some n =>
      rw [hs] at hc; simp only at hc
      cases hd : P.underlying t with
      | none => rw [hd] at hc; cases hc
      | some d =>
        rw [hd] at hc
        have fin : ∀ vc ad, a.eval x = .pointer (some ad) → (loadVar t ad).run P w = .ok vc w → (execOp a.eval ⟨dst, .load t x, type, pos, after, guard⟩).run P w = .ok (.value vc) w := fun vc ad hq hr => by
          simp only [execOp, hq]
          refine exec_v ?_
          unfold Instr.loadAt
          simp only [Instr.sureAddr, Sem.run_bind, Sem.run_pure, Result.andThen_ok, hr]
        have big : ∀ l', lop = l' → l' = .ldn n (co ds x) → (isAgg t).run P w = .ok true w → ∃ vc, (execOp a.eval ⟨dst, .load t x, type, pos, after, guard⟩).run P w = .ok (.value vc) w ∧ VR ρ v vc := by
          rintro _ rfl rfl hagg
          obtain ⟨vc, ad, e1, e2, e3⟩ := loadn_ok hw hs hagg h1 hv
          exact ⟨vc, fin vc ad e1 e2, e3⟩
        have iagg := isAgg_ok hd w
        cases d <;> simp only [XOp.l.injEq] at hc
        case struct => exact big _ rfl hc.symm iagg
        case array => exact big _ rfl hc.symm iagg
        all_goals
          subst hc
          obtain ⟨vc, ad, e1, e2, e3⟩ := load1_ok hw iagg h1 hv
          exact ⟨vc, fin vc ad e1 e2, e3⟩
  case store t x y => exfalso; (repeat' split at hc) <;> cases hc
  case binOp bop t x y yt => exfalso; simp only [Bool.cond_eq_ite] at hc; (repeat' split at hc) <;> cases hc
  case convert s d x =>
    have h1 := hx x (by simp [Op.operands])
    have und : ∀ {t : Nat} {dd : TypeDesc}, P.underlying t = some dd → (underlying t).run P w = .ok dd w := fun h => run_underlying h w
    split at hc <;> try (cases hc; done)
    · split at hc <;> cases hc
    · rename_i e hs hd
      split at hc
      · rename_i he
        simp only [XOp.l.injEq] at hc; subst hc
        have hv : cvsV (ev F L (co ds x)) h = some v := hv
        generalize ev F L (co ds x) = cv at hv h1
        generalize hq : a.eval x = q at h1
        cases cv <;> simp only [cvsV, reduceCtorEq, Option.some.injEq] at hv
        · subst hv; cases h1
          refine ⟨.string .empty, ?_, .str _ _ rfl⟩
          simp only [execOp, hq]
          exact exec_v (by unfold convert; simp only [Sem.run_bind, und hs, und hd, und he, Result.andThen_ok]; rfl)
        · rename_i i off len cap z
          cases hcl : cellsAt h i off len with
          | none => rw [hcl] at hv; cases hv
          | some l =>
            rw [hcl] at hv; simp only at hv
            cases hbl : bytes? l with
            | none => rw [hbl] at hv; cases hv
            | some bs =>
              rw [hbl] at hv; simp only at hv
              cases hz : Nat.beq z 1 with
              | false => rw [hz] at hv; cases hv
              | true =>
                rw [hz] at hv; simp only [cond_true, Option.some.injEq] at hv; subst hv
                rw [beq_nat] at hz; simp only [decide_eq_true_eq] at hz; subst hz
                have fin : ∀ (ad : Addr) (c : Nat), q = .slice (some ad) len c → (∃ vs : List Value, VRs ρ l vs ∧ vs.length = len ∧ (loadCells ad len).run P w = .ok vs.toArray w) → ∃ vc, (execOp a.eval ⟨dst, .convert s d x, type, pos, after, guard⟩).run P w = .ok (.value vc) w ∧ VR ρ (.str bs) vc := by
                  rintro ad c rfl ⟨vs, g1, g2, g3⟩
                  obtain ⟨rfl, hlt⟩ := bytes?_ok g1 hbl
                  obtain ⟨st, e1, e2⟩ := bytesToString_ok (P := P) (cap := c) hlt g3
                  refine ⟨.string st, ?_, .str _ _ e2⟩
                  simp only [execOp, hq]
                  exact exec_v (by unfold convert; simp only [Sem.run_bind, und hs, und hd, und he, Result.andThen_ok]; exact e1)
                obtain ⟨k1, k2⟩ := cellsAt_ok hw hcl
                cases h1 with
                | sld _ _ _ _ _ ad c hdd => exact absurd hdd k2
                | sl _ _ _ _ _ b m c hl =>
                  obtain ⟨vs, g1, g2, g3⟩ := k1 b m hl
                  refine fin _ c rfl ⟨vs, g1, g2, ?_⟩
                  have := run_loadCells_list (P := P) w ⟨b, off, none⟩ vs (fun j v hj => by rw [add_eq]; exact g3 j v hj)
                  rwa [g2] at this
                | slz _ _ _ ad hno => 
                  have hl0 : l = [] := by
                    unfold cellsAt at hcl
                    split at hcl
                    · cases hle : Nat.ble (Nat.add off 0) _ with
                      | false => rw [hle] at hcl; cases hcl
                      | true => rw [hle] at hcl; simp only [cond_true, getCells_zero, Option.some.injEq] at hcl; exact hcl.symm
                    · cases hcl
                  subst hl0
                  exact fin _ 0 rfl ⟨[], .nil, rfl, rfl⟩
      · cases hc
  case makeInterface t x => exfalso; split at hc <;> cases hc
  case makeFunc fn xs ys => exfalso; cases fn <;> simp only [reduceCtorEq] at hc <;> split at hc <;> cases hc
  case makeMap t r => exfalso; cases r <;> simp only at hc <;> (repeat' split at hc) <;> cases hc
  case makeSlice t l c => exfalso; simp only [Bool.cond_eq_ite] at hc; (repeat' split at hc) <;> cases hc
  case slice t x lo hi mx => exfalso; (repeat' split at hc) <;> cases hc
  case fieldAddr t x f => exfalso; (repeat' split at hc) <;> cases hc
  case field t x f => exfalso; (repeat' split at hc) <;> cases hc
  case indexAddr t x ix => exfalso; (repeat' split at hc) <;> cases hc
  case index t x ix => exfalso; (repeat' split at hc) <;> cases hc
  case lookup t x ix ok =>
    have h1 := hx x (by simp [Op.operands])
    have h2 := hx ix (by simp [Op.operands])
    split at hc
    · rename_i kt e hu
      split at hc
      · rename_i kc hkc
        split at hc
        · rename_i z hz
          simp only [XOp.l.injEq] at hc; subst hc
          have hv : lokV kc z ok (ev F L (co ds x)) (ev F L (co ds ix)) h = some v := hv
          generalize ev F L (co ds x) = xa at hv h1
          generalize ev F L (co ds ix) = ka at hv h2
          unfold lokV at hv
          cases hm : mapAt h xa with
          | none => rw [hm] at hv; cases hv
          | some es =>
            rw [hm] at hv; simp only at hv
            have hzz : ∃ zv, (zeroValue e).run P w = .ok zv w ∧ VR ρ z zv := by
              unfold zeroA at hz
              cases hi : P.info? e with
              | none => rw [hi] at hz; cases hz
              | some i =>
                cases hiz : i.zero with
                | none => rw [hi] at hz; simp [hiz] at hz
                | some zv =>
                  rw [hi] at hz
                  simp [hiz] at hz
                  subst hz
                  exact ⟨zv, by simp [zeroValue, typeInfo, hi, hiz], cv_ok ρ zv⟩
            obtain ⟨zv, hzr, hzv⟩ := hzz
            have core : ∀ (ces : Array MapEntry) (r : Option AV), MRp ρ es ces.toList → ((a.eval x = .map none ∧ ces = #[]) ∨ ∃ b clock, a.eval x = .map (some b) ∧ w.heap[b]? = some (.map ces clock)) → findK kc ka es = some r → keyOk kc ka = true →
                ∃ vc b, (execOp a.eval ⟨dst, .lookup t x ix ok, type, pos, after, guard⟩).run P w = .ok (.value (if ok then .tuple #[vc, .bool b] else vc)) w ∧ (b = r.isSome) ∧ VR ρ (r.getD z) vc := by
              intro ces r hmr hget hf hok
              have fin : ∀ (q : Option (Nat × Value)), (Instr.findKey kt (a.eval ix) ces.toList).run P w = .ok q w →
                  (execOp a.eval ⟨dst, .lookup t x ix ok, type, pos, after, guard⟩).run P w = .ok (.value (if ok then .tuple #[(match q with | some (_, v) => v | none => zv), .bool q.isSome] else (match q with | some (_, v) => v | none => zv))) w := by
                intro q hq
                simp only [execOp]
                refine exec_v ?_
                unfold Instr.lookup
                simp only [Sem.run_bind, run_underlying hu, Result.andThen_ok]
                rcases hget with ⟨he, rfl⟩ | ⟨b, clock, he, hb⟩
                · simp only [he, Sem.run_bind, Sem.run_pure, Result.andThen_ok, checkKey_ok hkc h2 hok, hq]
                  cases q with
                  | none => simp only [Sem.run_bind, hzr, Result.andThen_ok, Sem.run_pure, Option.isSome_none]
                  | some p => simp only [Sem.run_bind, Result.andThen_ok, Sem.run_pure, Option.isSome_some]
                · simp only [he, Sem.run_bind, getObj_ok hb (by simp), Sem.run_pure, Result.andThen_ok, checkKey_ok hkc h2 hok, hq]
                  cases q with
                  | none => simp only [Sem.run_bind, hzr, Result.andThen_ok, Sem.run_pure, Option.isSome_none]
                  | some p => simp only [Sem.run_bind, Result.andThen_ok, Sem.run_pure, Option.isSome_some]
              obtain ⟨es', hmr, hpp⟩ := hmr
              rcases findKey_ok hkc h2 w es' ces.toList r hmr (findK_p hpp hf) with ⟨rfl, g1, _⟩ | ⟨j, v', e', q, rfl, g1, _, g3, _⟩
              · exact ⟨zv, false, fin none g1, rfl, hzv⟩
              · exact ⟨e'.val, true, fin (some (j, e'.val)) g1, rfl, g3⟩
            cases hf : findK kc ka es with
            | none => rw [hf] at hv; cases hv
            | some r =>
              rw [hf] at hv
              have hok : keyOk kc ka = true := by
                cases hk : keyOk kc ka with
                | true => rfl
                | false => rw [hk] at hv; cases r <;> cases hv
              have hvv : v = (if ok then .tup [r.getD z, .bool r.isSome] else r.getD z) := by
                rw [hok] at hv
                cases r <;> cases ok <;> simp only [cond_true, Option.some.injEq] at hv <;> subst hv <;> rfl
              subst hvv
              have wrap : ∀ vc b, b = r.isSome → VR ρ (r.getD z) vc → VR ρ (if ok then .tup [r.getD z, .bool r.isSome] else r.getD z) (if ok then .tuple #[vc, .bool b] else vc) := by
                rintro vc _ rfl hvr
                cases ok
                · exact hvr
                · exact .tup _ _ (.cons _ _ _ _ hvr (.cons _ _ _ _ (.bool _) .nil))
              rcases mapAt_ok hw h1 hm with ⟨hq, rfl⟩ | ⟨i, b, n, ces, clock, _, hq, _, hb, hmr, _⟩
              · obtain ⟨vc, b, e1, e2, e3⟩ := core #[] r (MR.p .nil) (.inl ⟨hq, rfl⟩) hf hok
                exact ⟨_, e1, wrap vc b e2 e3⟩
              · obtain ⟨vc, b', e1, e2, e3⟩ := core ces r hmr (.inr ⟨b, clock, hq, hb⟩) hf hok
                exact ⟨_, e1, wrap vc b' e2 e3⟩
        · cases hc
      · cases hc
    · cases hc
  case mapUpdate t x y z => exfalso; (repeat' split at hc) <;> cases hc
  case insert t x y z => exfalso; (repeat' split at hc) <;> cases hc
  case range t x => exfalso; (repeat' split at hc) <;> cases hc
  case entry x =>
    have h1 := hx x (by simp [Op.operands])
    simp only [XOp.l.injEq] at hc; subst hc
    have hv : entV (ev F L (co ds x)) h = some v := hv
    generalize ev F L (co ds x) = xa at hv h1
    unfold entV at hv
    split at hv
    · rename_i i
      split at hv
      · rename_i r n left k u hb
        split at hv
        · rename_i es n' hr
          cases hn : Nat.beq n n' with
          | false => rw [hn] at hv; cases hv
          | true =>
            rw [hn] at hv; simp only [cond_true, Option.some.injEq] at hv; subst hv
            rw [beq_nat] at hn; simp only [decide_eq_true_eq] at hn; subst hn
            generalize hq : a.eval x = q at h1
            cases h1 with
            | ptrd _ _ ad hd => exact absurd (hw.dead i _ hd hb) (by simp)
            | ptr _ _ b m hl =>
              obtain ⟨o, ho, b', since, seen, stepped, es0, m0, rfl, ⟨m', hm'⟩, hr0, _, hir⟩ := hw.blk i b m _ hl hb
              rw [hr] at hr0
              simp only [Option.some.injEq, Blk.map.injEq] at hr0
              obtain ⟨rfl, rfl⟩ := hr0
              obtain ⟨ces, clock, hces, rfl, rfl, hor⟩ := hir rfl
              rcases hor with ⟨_, _, hcur⟩ | ⟨k', u', e, _, hes, hcur, rfl, rfl⟩ | ⟨k', u', e, hcur, _, hmem, hback, hk, hvv, _⟩
              · cases hcur
              · simp only [Option.some.injEq, Prod.mk.injEq] at hcur
                obtain ⟨rfl, rfl⟩ := hcur
                subst hes
                obtain ⟨o', ho', ces', clock', rfl, hmr, _⟩ := hw.blk r b' m' _ hm' hr
                rw [hces] at ho'
                simp only [Option.some.injEq, Obj.map.injEq] at ho'
                obtain ⟨rfl, rfl⟩ := ho'
                have hmr := hmr.small (by simp)
                cases hmr with
                | cons _ _ _ _ _ hk hvv _ =>
                  refine ⟨.tuple #[e.key, e.val], ?_, .tup _ _ (.cons _ _ _ _ hk (.cons _ _ _ _ hvv .nil))⟩
                  simp only [execOp, hq]
                  refine exec_v ?_
                  unfold Instr.entry
                  simp only [Sem.run_bind, getObj_ok ho (by simp), Result.andThen_ok]
                  simp only [Array.back?, List.size_toArray, List.length_cons, List.length_nil, Nat.zero_add, Nat.sub_self, List.getElem?_toArray, List.getElem?_cons_zero, Sem.run_bind, getObj_ok hces (by simp), Result.andThen_ok, bne_self_eq_false, Bool.false_eq_true, if_false]
                  simp
              · simp only [Option.some.injEq, Prod.mk.injEq] at hcur
                obtain ⟨rfl, rfl⟩ := hcur
                obtain ⟨o', ho', ces', clock', rfl, _, _, hpw⟩ := hw.blk r b' m' _ hm' hr
                rw [hces] at ho'
                simp only [Option.some.injEq, Obj.map.injEq] at ho'
                obtain ⟨rfl, rfl⟩ := ho'
                refine ⟨.tuple #[e.key, e.val], ?_, .tup _ _ (.cons _ _ _ _ hk (.cons _ _ _ _ hvv .nil))⟩
                simp only [execOp, hq]
                refine exec_v ?_
                unfold Instr.entry
                simp only [Sem.run_bind, getObj_ok ho (by simp), Result.andThen_ok, hback, getObj_ok hces (by simp), bne_self_eq_false, Bool.false_eq_true, if_false, find_born hpw hmem, Sem.run_pure]
        · cases hv
      · cases hv
    · cases hv
  case call c =>
    obtain ⟨callee, args, argTypes⟩ := c
    cases callee with
    | value f => cases f <;> simp only [reduceCtorEq] at hc
    | invoke r m => simp only [reduceCtorEq] at hc
    | builtin b =>
      simp only at hc
      have hargs : ∀ x ∈ args.toList, VR ρ (ev F L (co ds x)) (a.eval x) := fun x h => hx x (by simp only [Op.operands, Call.operands]; simpa using h)
      obtain ⟨al⟩ := args
      obtain ⟨tl⟩ := argTypes
      simp only at hc hargs
      unfold compBuiltin at hc
      split at hc
      · rename_i x
        split at hc
        · rename_i t ts
          have h1 := hargs x (by simp)
          split at hc <;> try (cases hc; done)
          rename_i kt e hu
          simp only [XOp.l.injEq] at hc; subst hc
          have hv : lenmV (ev F L (co ds x)) h = some v := hv
          generalize ev F L (co ds x) = xa at hv h1
          unfold lenmV at hv
          cases hm : mapAt h xa with
          | none => rw [hm] at hv; cases hv
          | some es =>
            rw [hm] at hv; simp only [Option.some.injEq] at hv; subst hv
            rw [lenN_eq]
            have run : ∀ n : Nat, (Builtin.len_ ⟨t :: ts⟩ type #[a.eval x]).run P w = .ok (.int .i64 (n : Int)) w → (execOp a.eval ⟨dst, .call ⟨.builtin .len, ⟨[x]⟩, ⟨t :: ts⟩⟩, type, pos, after, guard⟩).run P w = .ok (.value (.int .i64 (n : Int))) w := fun n h => by
              simp only [execOp, resolve, Sem.run_bind, Sem.run_pure, Result.andThen_ok, invoke]
              exact exec_v (by rw [show Array.map a.eval ⟨[x]⟩ = #[a.eval x] by simp]; exact h)
            rcases mapAt_ok hw h1 hm with ⟨hq, rfl⟩ | ⟨i, b, n, ces, clock, _, hq, _, hb, hmr, _⟩
            · exact ⟨_, run 0 (by unfold Builtin.len_; simp [hq, run_underlying hu, goInt]), .int _ _⟩
            · refine ⟨_, run ces.size (by unfold Builtin.len_; simp [hq, run_underlying hu, goInt, getObj_ok hb]), ?_⟩
              have : es.length = ces.size := by rw [hmr.length]; simp
              rw [this]; exact .int _ _
        · cases hc
      all_goals (exfalso; (try simp only [Bool.cond_eq_ite] at hc); (repeat' split at hc) <;> cases hc)
end
end Hx
