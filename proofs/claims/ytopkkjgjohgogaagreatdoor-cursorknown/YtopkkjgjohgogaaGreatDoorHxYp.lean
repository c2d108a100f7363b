/- The evaluator: regions of which the last operations, two stores among them, may stand in any order. -/
import Derived.Test.YtopkkjgjohgogaaGreatDoorHxYk
namespace Hx
open Go

noncomputable section
/-- the operations' slots, all of them -/
def slotsM (l : List Oper) : Nat := List.rec (motive := fun _ => Nat) 0 (fun o _ ih => match o.dst with | some d => orBit ih d | none => ih) l
def onE (o : Oper) (j : Nat) : Bool := o.after.toList.any fun e => coreE e && Nat.beq e.on j
/-- do all those ahead of number n bind it? -/
def bindsAll (o : Oper) (n : Nat) : Bool := Nat.rec (motive := fun _ => Bool) true (fun j ih => onE o j && ih) n
/-- no edge leads on, from number i -/
def backO (o : Oper) (i : Nat) : Bool := o.after.toList.all fun e => !(coreE e) || Nat.blt e.on i
/-- what it reads of those (from number i on) binds it -/
def seesOk (o : Oper) (l : List Oper) : Nat → Bool := List.rec (motive := fun _ => Nat → Bool) (fun _ => true)
  (fun p _ ih i => (match p.dst with | some d => !((o.op.operands.toList.flatMap opnd).contains d) || onE o i | none => true) && ih (Nat.succ i)) l
/-- without memory: over a frame that holds all, does it give what the frame has? -/
def pureOk (P : Program) (nt : Nat) (F : Fr) (o : Oper) : Bool := match o.dst with
  | some d => Nat.blt d nt && (match compOp P [] o with
    | .p q => (match popX q F [] with | some v => eqA v (ev F [] (.f d)) | none => false)
    | _ => false)
  | none => false
def seqF (P : Program) (l : List Oper) : Fr → Option Fr := List.rec (motive := fun _ => Fr → Option Fr) (fun F => some F)
  (fun o _ ih F => match o.dst with
    | some d => (match compOp P [] o with | .p q => (match popX q F [] with | some v => ih (F.set d v) | none => none) | _ => none)
    | none => ih F) l
/-- a store, by the frame -/
def stS (P : Program) (F : Fr) (o : Oper) (h : Hp) : Res := match o.dst, compOp P [] o with
  | none, .e (.st n a v) => stV n (ev F [] a) (ev F [] v) h
  | _, _ => .bad []
def adS (P : Program) (F : Fr) (o : Oper) : AV := match compOp P [] o with
  | .e (.st _ a _) => ev F [] a
  | _ => .bot
def neS (a b : AV) : Bool := match a, b with
  | .ptr i _, .ptr j _ => !(Nat.beq i j)
  | _, _ => false
def keepS (outs : Nat) (G : Fr) (l : List Oper) (F : Fr) : Fr := List.rec (motive := fun _ => Fr) F (fun o _ ih => match o.dst with
  | some d => bif Nat.testBit outs d then ih.set d (ev G [] (.f d)) else ih
  | none => ih) l
def noG (o : Oper) : Bool := match o.guard with | none => true | some _ => false
/-- each operation from number i on, but for the numbers x and y: worldless; all: bound by those ahead of n -/
def sufOk (P : Program) (nt n x y : Nat) (G : Fr) (suf : List Oper) (l : List Oper) : Nat → Bool := List.rec (motive := fun _ => Nat → Bool) (fun _ => true)
  (fun o _ ih i => noG o && bindsAll o n && backO o i && seesOk o suf n && (Nat.beq i x || Nat.beq i y || pureOk P nt G o) && ih (Nat.succ i)) l
def allNG (l : List Oper) : Bool := List.rec (motive := fun _ => Bool) true (fun o _ ih => noG o && ih) l

/-- the first n; then the others, the stores x and y among them, in any order -/
def splitX (P : Program) (nt outs : Nat) (call : CallT) (ops : List Oper) (n x y : Nat) (id : Nat) (F : Fr) (h : Hp) : XR :=
  match regionX P nt (Nat.lor outs (slotsM ops)) call (ops.take n) true id F h with
  | .norm F1 h1 => match seqF P (ops.drop n) F1 with
    | some G => bif allNG (ops.take n) && sufOk P nt n x y G (ops.drop n) (ops.drop n) n && Nat.ble n (lenN ops) && Nat.ble n x && Nat.blt x y && neS (adS P G ((ops[x]?).getD default)) (adS P G ((ops[y]?).getD default)) then
        (match stS P G ((ops[x]?).getD default) h1 with
        | .ok _ h2 => (match stS P G ((ops[y]?).getD default) h2 with
          | .ok _ h3 => .norm (keepS outs G ops F) h3
          | .bad w => .bad (id :: 7777771 :: w))
        | .bad w => .bad (id :: 7777772 :: w)) else .bad [id, 7777773]
    | none => .bad [id, 7777774]
  | .bad w => .bad w
  | _ => .bad [id, 7777775]
end

section
variable {P : Program}

/-! ### the same memory, told otherwise -/
theorem Own.congr {h h' : Hp} (ht : ∀ i, h'.t.get i = h.t.get i) {i : Nat} (ho : Own h' i) : Own h i := by
  obtain ⟨k, h1, h2⟩ := ho
  exact ⟨k, by rw [← ht]; exact h1, h2⟩
theorem Ext.congr {ρ ρ' : Ren} {h h' h'' : Hp} {w w' : World} (e : Ext ρ ρ' h h' w w') (ht : ∀ i, h''.t.get i = h'.t.get i) (hn : h''.next = h'.next) : Ext ρ ρ' h h'' w w' where
  wr := { bd := e.wr.bd, inj := e.wr.inj, blk := fun i b n k hi hk => by
            rw [ht] at hk
            obtain ⟨o, h1, h2⟩ := e.wr.blk i b n k hi hk
            exact ⟨o, h1, h2.keep (Ren.le_refl _) fun r c m es ver hr hes => ⟨hr, .inl ⟨by rw [ht]; exact hes, Eq.refl _⟩⟩⟩
          dead := fun i k hi hk => e.wr.dead i k hi (by rw [← ht]; exact hk)
          fresh := fun i hi => by rw [ht]; exact e.wr.fresh i (by rw [← hn]; exact hi)
          all := fun i k hk => e.wr.all i k (by rw [← ht]; exact hk) }
  lim := fun i hi => e.lim i (by rw [← hn]; exact hi)
  le := e.le
  hn := by rw [hn]; exact e.hn
  hs := e.hs
  nw := e.nw
  fr := e.fr
  ow := fun i hi ho => e.ow i hi (ho.congr ht)
  kp := e.kp
  io := e.io

theorem stV_put {n : Nat} {a v : AV} {h h' : Hp} {u : AV} (hs : stV n a v h = .ok u h') : ∃ i off B, a = .ptr i off ∧ u = .tup [] ∧ h' = h.put i B ∧ ∀ h2 : Hp, h2.t.get i = h.t.get i → stV n a v h2 = .ok (.tup []) (h2.put i B) := by
  unfold stV at hs
  split at hs
  · rename_i i off
    split at hs
    · rename_i c top hb
      split at hs
      · rename_i l hl
        cases hc : (Nat.beq (lenN l) n && Nat.ble (Nat.add off n) top && scals l) with
        | false => rw [hc] at hs; cases hs
        | true =>
          rw [hc] at hs
          simp only [cond_true, Res.ok.injEq] at hs
          obtain ⟨rfl, rfl⟩ := hs
          refine ⟨i, off, _, rfl, rfl, rfl, fun h2 h3 => ?_⟩
          unfold stV
          simp only [h3, hb, hl, hc, cond_true]
      · cases hs
    · cases hs
  · cases hs

/-- the memory, by which of the two stores were run -/
noncomputable def mem4 (h : Hp) (i : Nat) (B : Blk) (j : Nat) (C : Blk) (bx yb : Bool) : Hp := match bx, yb with
  | false, false => h
  | true, false => h.put i B
  | false, true => h.put j C
  | true, true => (h.put i B).put j C

theorem put_swap (h : Hp) {i j : Nat} (B C : Blk) (hij : i ≠ j) : ∀ k, ((h.put i B).put j C).t.get k = ((h.put j C).put i B).t.get k := fun k => by
  unfold Hp.put
  simp only [Tr.get_set]
  by_cases h1 : k = j
  · rw [if_pos h1, if_neg (by omega), if_pos h1]
  · rw [if_neg h1, if_neg h1]

/-! ### the checks -/
theorem onE_ok {o : Oper} {j : Nat} (h : onE o j = true) : ∃ e ∈ o.after.toList, coreE e = true ∧ e.on = j := by
  unfold onE at h
  rw [List.any_eq_true] at h
  obtain ⟨e, h1, h2⟩ := h
  rw [Bool.and_eq_true] at h2
  exact ⟨e, h1, h2.1, beqN_true h2.2⟩
theorem bindsAll_ok {o : Oper} : ∀ {n : Nat}, bindsAll o n = true → ∀ j, j < n → ∃ e ∈ o.after.toList, coreE e = true ∧ e.on = j
  | 0, _, j, hj => by omega
  | n + 1, h, j, hj => by
    have h : (onE o n && bindsAll o n) = true := h
    rw [Bool.and_eq_true] at h
    by_cases hn : j = n
    · subst hn; exact onE_ok h.1
    · exact bindsAll_ok h.2 j (by omega)
theorem backO_ok {o : Oper} {i : Nat} (h : backO o i = true) {e : Edge} (he : e ∈ o.after.toList) (hc : coreE e = true) : e.on < i := by
  unfold backO at h
  rw [List.all_eq_true] at h
  have := h e he
  rw [hc, blt_nat] at this
  simpa using this
theorem seesOk_ok {o : Oper} : ∀ {l : List Oper} {i : Nat}, seesOk o l i = true → ∀ k p, l[k]? = some p → ∀ d, p.dst = some d → d ∈ o.op.operands.toList.flatMap opnd → ∃ e ∈ o.after.toList, coreE e = true ∧ e.on = i + k
  | [], _, _, k, p, h, _, _, _ => by simp at h
  | q :: l, i, h, k, p, hk, d, hd, hm => by
    have h : ((match q.dst with | some d => !((o.op.operands.toList.flatMap opnd).contains d) || onE o i | none => true) && seesOk o l (Nat.succ i)) = true := h
    rw [Bool.and_eq_true] at h
    cases k with
    | zero =>
      have : q = p := by simpa using hk
      subst this
      have h1 := h.1
      rw [hd] at h1
      simp only [Bool.or_eq_true, Bool.not_eq_true', List.contains_eq_mem, decide_eq_false_iff_not] at h1
      rcases h1 with h1 | h1
      · exact absurd hm h1
      · exact onE_ok h1
    | succ k =>
      obtain ⟨e, e1, e2, e3⟩ := seesOk_ok h.2 k p (by simpa using hk) d hd hm
      exact ⟨e, e1, e2, by rw [e3]; show i + 1 + k = i + (k + 1); omega⟩
theorem noG_ok {o : Oper} (h : noG o = true) : o.guard = none := by
  unfold noG at h
  split at h
  · assumption
  · cases h
theorem allNG_ok : ∀ {l : List Oper}, allNG l = true → ∀ o ∈ l, o.guard = none
  | [], _, o, h => by cases h
  | p :: l, h, o, ho => by
    have h : (noG p && allNG l) = true := h
    rw [Bool.and_eq_true] at h
    rcases List.mem_cons.1 ho with rfl | ho
    · exact noG_ok h.1
    · exact allNG_ok h.2 o ho
theorem sufOk_ok {nt n x y : Nat} {G : Fr} {suf : List Oper} : ∀ {l : List Oper} {i : Nat}, sufOk P nt n x y G suf l i = true → ∀ k o, l[k]? = some o →
    o.guard = none ∧ bindsAll o n = true ∧ backO o (i + k) = true ∧ seesOk o suf n = true ∧ (i + k = x ∨ i + k = y ∨ pureOk P nt G o = true)
  | [], _, _, k, o, h => by simp at h
  | p :: l, i, h, k, o, hk => by
    have h : (noG p && bindsAll p n && backO p i && seesOk p suf n && (Nat.beq i x || Nat.beq i y || pureOk P nt G p) && sufOk P nt n x y G suf l (Nat.succ i)) = true := h
    simp only [Bool.and_eq_true, Bool.or_eq_true] at h
    obtain ⟨⟨⟨⟨⟨h1, h2⟩, h3⟩, h4⟩, h5⟩, h6⟩ := h
    cases k with
    | zero =>
      have : p = o := by simpa using hk
      subst this
      refine ⟨noG_ok h1, h2, h3, h4, ?_⟩
      rcases h5 with (h5 | h5) | h5
      · exact .inl (beqN_true h5)
      · exact .inr (.inl (beqN_true h5))
      · exact .inr (.inr h5)
    | succ k =>
      have := sufOk_ok h6 k o (by simpa using hk)
      rwa [show Nat.succ i + k = i + (k + 1) by omega] at this

theorem orBit_ok (m d t : Nat) : Nat.testBit (orBit m d) t = (Nat.testBit m t || decide (t = d)) := by
  have e : orBit m d = m ||| 1 <<< d := rfl
  rw [e, Nat.testBit_or]
  congr 1
  rw [Nat.one_shiftLeft, Nat.testBit_two_pow]
  by_cases h : d = t
  · subst h; simp
  · simp [h, Ne.symm h]

theorem slotsM_ok : ∀ {l : List Oper} {o : Oper} {d : Nat}, o ∈ l → o.dst = some d → Nat.testBit (slotsM l) d = true
  | [], _, _, ho, _ => by cases ho
  | p :: l, o, d, ho, hd => by
    have e : slotsM (p :: l) = (match p.dst with | some d => orBit (slotsM l) d | none => slotsM l) := rfl
    rw [e]
    rcases List.mem_cons.1 ho with rfl | ho
    · rw [hd]
      simp only [orBit_ok, decide_true, Bool.or_true]
    · have ih := slotsM_ok ho hd
      cases p.dst with
      | none => exact ih
      | some c => simp only [orBit_ok, ih, Bool.true_or]

theorem keepS_get (outs : Nat) (G F : Fr) (t : Nat) : ∀ l : List Oper, ((∃ o ∈ l, o.dst = some t) ∧ Nat.testBit outs t = true ∧ (keepS outs G l F).get t = some (ev G [] (.f t))) ∨ (((∀ o ∈ l, o.dst ≠ some t) ∨ Nat.testBit outs t = false) ∧ (keepS outs G l F).get t = F.get t)
  | [] => .inr ⟨.inl (by simp), rfl⟩
  | p :: l => by
    have e : keepS outs G (p :: l) F = (match p.dst with
      | some d => bif Nat.testBit outs d then (keepS outs G l F).set d (ev G [] (.f d)) else keepS outs G l F
      | none => keepS outs G l F) := rfl
    rw [e]
    have ih := keepS_get outs G F t l
    cases hd : p.dst with
    | none =>
      rcases ih with ⟨⟨o, h1, h2⟩, h3⟩ | ⟨h1, h2⟩
      · exact .inl ⟨⟨o, by simp [h1], h2⟩, h3⟩
      · refine .inr ⟨h1.imp (fun h o ho => ?_) id, h2⟩
        rcases List.mem_cons.1 ho with rfl | ho
        · rw [hd]; simp
        · exact h o ho
    | some d =>
      simp only
      cases hb : Nat.testBit outs d with
      | false =>
        simp only [cond_false]
        rcases ih with ⟨⟨o, h1, h2⟩, h3⟩ | ⟨h1, h2⟩
        · exact .inl ⟨⟨o, by simp [h1], h2⟩, h3⟩
        · by_cases hdt : d = t
          · subst hdt; exact .inr ⟨.inr hb, h2⟩
          · refine .inr ⟨h1.imp (fun h o ho => ?_) id, h2⟩
            rcases List.mem_cons.1 ho with rfl | ho
            · rw [hd]; simpa using hdt
            · exact h o ho
      | true =>
        simp only [cond_true]
        by_cases hdt : d = t
        · subst hdt
          exact .inl ⟨⟨p, by simp, hd⟩, hb, by rw [Tr.get_set_same]⟩
        · rw [Tr.get_set_ne _ _ (fun e => hdt e.symm)]
          rcases ih with ⟨⟨o, h1, h2⟩, h3⟩ | ⟨h1, h2⟩
          · exact .inl ⟨⟨o, by simp [h1], h2⟩, h3⟩
          · refine .inr ⟨h1.imp (fun h o ho => ?_) id, h2⟩
            rcases List.mem_cons.1 ho with rfl | ho
            · rw [hd]; simpa using hdt
            · exact h o ho

theorem seqF_get (t : Nat) : ∀ {l : List Oper} {F G : Fr}, seqF P l F = some G → (∀ o ∈ l, o.dst ≠ some t) → G.get t = F.get t
  | [], F, G, h, _ => by
    have h : some F = some G := h
    simp only [Option.some.injEq] at h
    rw [h]
  | p :: l, F, G, h, hn => by
    have h : (match p.dst with
      | some d => (match compOp P [] p with | .p q => (match popX q F [] with | some v => seqF P l (F.set d v) | none => none) | _ => none)
      | none => seqF P l F) = some G := h
    cases hd : p.dst with
    | none => rw [hd] at h; exact seqF_get t h fun o ho => hn o (by simp [ho])
    | some d =>
      rw [hd] at h
      simp only at h
      split at h
      · split at h
        · rw [seqF_get t h fun o ho => hn o (by simp [ho]), Tr.get_set_ne]
          intro e
          subst e
          exact hn p (by simp) hd
        · cases h
      · cases h
end
end Hx

/- The evaluator: regions of which the last operations, two stores among them, may stand in any order: the theorem. -/
namespace Hx
open Go

section
variable {P : Program} {call : CallT} {nt n x y : Nat} {ops : Array Oper} {G : Fr} {h h1 : Hp} {w0 : World} {ρ0 : Ren} {i j : Nat} {B C : Blk}
variable {s : Array Bool} {a : Act} {w : World}

/-- what is known of the last operations -/
structure SP (P : Program) (nt n x y : Nat) (ops : Array Oper) (G : Fr) (h1 : Hp) (i : Nat) (B : Blk) (j : Nat) (C : Blk) : Prop where
  hxy : x ≠ y
  hij : i ≠ j
  bind : ∀ k, n ≤ k → k < ops.size → (opN ops k).guard = none ∧ (∀ j, j < n → ∃ e ∈ (opN ops k).after.toList, coreE e = true ∧ e.on = j) ∧ (∀ e ∈ (opN ops k).after.toList, coreE e = true → e.on < k) ∧
    (∀ k', n ≤ k' → k' < ops.size → ∀ d, (opN ops k').dst = some d → d ∈ (opN ops k).op.operands.toList.flatMap opnd → ∃ e ∈ (opN ops k).after.toList, coreE e = true ∧ e.on = k')
  pur : ∀ k, n ≤ k → k < ops.size → k ≠ x → k ≠ y → ∃ d q, (opN ops k).dst = some d ∧ d < nt ∧ compOp P [] (opN ops k) = .p q ∧ popX q G [] = some (ev G [] (.f d))
  sx : (opN ops x).dst = none ∧ ∃ m b v, compOp P [] (opN ops x) = .e (.st m b v) ∧ ∀ h2 : Hp, h2.t.get i = h1.t.get i → stV m (ev G [] b) (ev G [] v) h2 = .ok (.tup []) (h2.put i B)
  sy : (opN ops y).dst = none ∧ ∃ m b v, compOp P [] (opN ops y) = .e (.st m b v) ∧ ∀ h2 : Hp, h2.t.get j = h1.t.get j → stV m (ev G [] b) (ev G [] v) h2 = .ok (.tup []) (h2.put j C)

/-- where the run stands among the last operations -/
structure SI (nt n x y : Nat) (ops : Array Oper) (G : Fr) (h h1 : Hp) (i : Nat) (B : Blk) (j : Nat) (C : Blk) (ρ0 : Ren) (w0 : World) (s : Array Bool) (a : Act) (w : World) : Prop where
  size : s.size = ops.size
  pre : ∀ k, k < n → Lst s k
  run : ∃ ρ, Ext ρ0 ρ h (mem4 h1 i B j C (s.getD x false) (s.getD y false)) w0 w ∧ ∀ t, (∀ k, n ≤ k → k < ops.size → (opN ops k).dst = some t → Lst s k) → VR ρ (ev G [] (.f t)) (a.tmps.getD t undef)
  tsz : nt ≤ a.tmps.size
  dfr : a.defers = []

theorem getD_set {s : Array Bool} {k : Nat} (hk : k < s.size) (m : Nat) : (s.setIfInBounds k true).getD m false = if m = k then true else s.getD m false := by
  rw [Array.getD_eq_getD_getElem?, Array.getD_eq_getD_getElem?, Array.getElem?_setIfInBounds]
  by_cases q : k = m
  · subst q; rw [if_pos rfl, if_pos rfl, if_pos hk]; rfl
  · rw [if_neg q, if_neg (fun e => q e.symm)]
theorem getD_not {s : Array Bool} {k : Nat} (hn : ¬ Lst s k) : s.getD k false = false := by
  unfold Lst at hn
  rw [Array.getD_eq_getD_getElem?]
  cases hq : s[k]? with
  | none => rfl
  | some b => cases b with
    | false => rfl
    | true => exact absurd hq hn
theorem getD_yes {s : Array Bool} {k : Nat} (hn : Lst s k) : s.getD k false = true := by
  unfold Lst at hn
  rw [Array.getD_eq_getD_getElem?, hn]; rfl

theorem SI.step (hcall : CallOk P call) (hng : NoNG P) (sp : SP P nt n x y ops G h1 i B j C) (hl : Lim ρ0 h) (hg : Gl ρ0 h) (hI : SI nt n x y ops G h h1 i B j C ρ0 w0 s a w) {k : Nat} (hr : k ∈ Region.ready .any ops s) {Q : Exit → Act → World → Prop} {K : Act → World → Prop}
    (hK : ∀ a' w', SI nt n x y ops G h h1 i B j C ρ0 w0 (s.setIfInBounds k true) a' w' → K a' w') : wpOp P ops Q k K a w := by
  obtain ⟨hk, hn, hedge⟩ := ready_mem hI.size hr
  have hks : k < s.size := by rw [hI.size]; exact hk
  have hnk : n ≤ k := by
    rcases Nat.lt_or_ge k n with q | q
    · exact absurd (hI.pre k q) hn
    · exact q
  obtain ⟨g0, g1, g2, g3⟩ := sp.bind k hnk hk
  obtain ⟨ρ, e, sl⟩ := hI.run
  have hgl := hg.ext hl e
  have hops : ∀ z ∈ (opN ops k).op.operands, VR ρ (ev G [] (co [] z)) (a.eval z) := opnd_of hgl fun t ht => by
    rw [co_tmp, findD_nil]
    exact sl t fun k' q1 q2 q3 => by
      obtain ⟨ed, e1, e2, e3⟩ := g3 k' q1 q2 t q3 ht
      rw [← e3]; exact hedge ed e1 e2
  have hpre : ∀ m, m < n → Lst (s.setIfInBounds k true) m := fun m hm => (Lst_set hks m).2 (.inl (hI.pre m hm))
  unfold wpOp
  rw [opN_get hk]
  simp only
  have hw1 : Region.wanted (opN ops k) (yielded ops a.tmps) = true := by unfold Region.wanted; rw [g0]
  rw [hw1, if_pos rfl]
  refine .inl ?_
  have slots : ∀ (ρ' : Ren), ρ.le ρ' → (opN ops k).dst = none → ∀ t, (∀ k', n ≤ k' → k' < ops.size → (opN ops k').dst = some t → Lst (s.setIfInBounds k true) k') → VR ρ' (ev G [] (.f t)) (a.tmps.getD t undef) := fun ρ' hle hd t ht =>
    (sl t fun k' q1 q2 q3 => by
      rcases (Lst_set hks k').1 (ht k' q1 q2 q3) with q | q
      · exact q
      · subst q; rw [hd] at q3; cases q3).mono hle
  by_cases hkx : k = x
  · subst hkx
    obtain ⟨d0, m, b, v, c1, c2⟩ := sp.sx
    have hrun := c2 (mem4 h1 i B j C (s.getD k false) (s.getD y false)) (by
      rw [getD_not hn]
      cases s.getD y false with
      | false => rfl
      | true => exact Tr.get_set_ne _ _ sp.hij)
    obtain ⟨v', hh, k1, k2⟩ := op_ok hcall hng (k := fun v h => .ok [v] h) (L' := [.tup []]) (hh := (mem4 h1 i B j C (s.getD k false) (s.getD y false)).put i B) e.wr e.lim hgl hops (by
      rw [c1]
      show Res.rec (motive := fun _ => OR) (fun v h => OR.ok [v] h) (fun w => .bad w) (stV m (ev G [] b) (ev G [] v) _) = _
      rw [hrun])
    simp only [OR.ok.injEq, List.cons.injEq, and_true] at k1
    obtain ⟨rfl, rfl⟩ := k1
    refine k2 K Q fun u w' ρ' _ ex => ?_
    rw [d0]
    refine hK _ _ ⟨by rw [Array.size_setIfInBounds]; exact hI.size, hpre, ⟨ρ', ?_, slots ρ' ex.le d0⟩, hI.tsz, hI.dfr⟩
    rw [getD_set hks, getD_set hks, if_pos rfl, if_neg (fun q => sp.hxy q.symm)]
    have ex2 := Ext.trans hl e ex
    rw [getD_not hn] at ex2
    cases hy : s.getD y false with
    | false => rw [hy] at ex2; exact ex2
    | true =>
      rw [hy] at ex2
      exact ex2.congr (put_swap h1 B C sp.hij) rfl
  · by_cases hky : k = y
    · subst hky
      obtain ⟨d0, m, b, v, c1, c2⟩ := sp.sy
      have hrun := c2 (mem4 h1 i B j C (s.getD x false) (s.getD k false)) (by
        rw [getD_not hn]
        cases s.getD x false with
        | false => rfl
        | true => exact Tr.get_set_ne _ _ (fun q => sp.hij q.symm))
      obtain ⟨v', hh, k1, k2⟩ := op_ok hcall hng (k := fun v h => .ok [v] h) (L' := [.tup []]) (hh := (mem4 h1 i B j C (s.getD x false) (s.getD k false)).put j C) e.wr e.lim hgl hops (by
        rw [c1]
        show Res.rec (motive := fun _ => OR) (fun v h => OR.ok [v] h) (fun w => .bad w) (stV m (ev G [] b) (ev G [] v) _) = _
        rw [hrun])
      simp only [OR.ok.injEq, List.cons.injEq, and_true] at k1
      obtain ⟨rfl, rfl⟩ := k1
      refine k2 K Q fun u w' ρ' _ ex => ?_
      rw [d0]
      refine hK _ _ ⟨by rw [Array.size_setIfInBounds]; exact hI.size, hpre, ⟨ρ', ?_, slots ρ' ex.le d0⟩, hI.tsz, hI.dfr⟩
      rw [getD_set hks, getD_set hks, if_pos rfl, if_neg (fun q => hkx q.symm)]
      have ex2 := Ext.trans hl e ex
      rw [getD_not hn] at ex2
      cases hy : s.getD x false with
      | false => rw [hy] at ex2; exact ex2
      | true => rw [hy] at ex2; exact ex2
    · obtain ⟨d, q, d1, d2, d3, d4⟩ := sp.pur k hnk hk hkx hky
      obtain ⟨v', hh, k1, k2⟩ := op_ok hcall hng (k := fun v h => .ok [v] h) (L' := [ev G [] (.f d)]) (hh := mem4 h1 i B j C (s.getD x false) (s.getD y false)) e.wr e.lim hgl hops (by
        rw [d3]
        show Option.rec (motive := fun _ => OR) (.bad []) (fun v => OR.ok [v] _) (popX q G []) = _
        rw [d4])
      simp only [OR.ok.injEq, List.cons.injEq, and_true] at k1
      obtain ⟨rfl, rfl⟩ := k1
      refine k2 K Q fun u w' ρ' hu ex => ?_
      refine hK _ _ ⟨by rw [Array.size_setIfInBounds]; exact hI.size, hpre, ⟨ρ', ?_, fun t ht => ?_⟩, by rw [put_size]; exact hI.tsz, by rw [put_defers]; exact hI.dfr⟩
      · rw [getD_set hks, getD_set hks, if_neg (fun q => hkx q.symm), if_neg (fun q => hky q.symm)]
        exact Ext.trans hl e ex
      · rw [d1]
        show VR ρ' _ ((a.tmps.setIfInBounds d u).getD t undef)
        by_cases hdt : d = t
        · subst hdt
          have : (a.tmps.setIfInBounds d u).getD d undef = u := by
            rw [Array.getD_eq_getD_getElem?, Array.getElem?_setIfInBounds, if_pos rfl, if_pos (Nat.lt_of_lt_of_le d2 hI.tsz)]; rfl
          rw [this]; exact hu
        · have : (a.tmps.setIfInBounds d u).getD t undef = a.tmps.getD t undef := by
            rw [Array.getD_eq_getD_getElem?, Array.getD_eq_getD_getElem?, Array.getElem?_setIfInBounds, if_neg hdt]
          rw [this]
          refine (sl t fun k' q1 q2 q3 => ?_).mono ex.le
          rcases (Lst_set hks k').1 (ht k' q1 q2 q3) with z | z
          · exact z
          · subst z
            rw [d1] at q3
            exact absurd (Option.some.inj q3) hdt

/-- the last operations, in any order -/
theorem suf_ok (hcall : CallOk P call) (hng : NoNG P) (sp : SP P nt n x y ops G h1 i B j C) (hl : Lim ρ0 h) (hg : Gl ρ0 h) {Q : Exit → Act → World → Prop}
    (hQ : ∀ s a w, SI nt n x y ops G h h1 i B j C ρ0 w0 s a w → (∀ k, k < ops.size → Lst s k) → Q .normal a w) : ∀ (fuel : Nat) (s : Array Bool) (a : Act) (w : World), SI nt n x y ops G h h1 i B j C ρ0 w0 s a w → left s ops.size ≤ fuel → wpAny P .any ops Q fuel s a w
  | 0, s, a, w, hI, hf => by
    have hall := left_zero (ops := ops) (s := s) (by omega)
    refine ⟨?_, hQ s a w hI hall⟩
    cases hr : Region.ready .any ops s with
    | nil => rfl
    | cons i l =>
      obtain ⟨hi, hn, _⟩ := ready_mem hI.size (show i ∈ Region.ready .any ops s by rw [hr]; simp)
      exact absurd (hall i hi) hn
  | fuel + 1, s, a, w, hI, hf => by
    refine ⟨fun hr => hQ s a w hI fun k => ?_, fun k hr => ?_⟩
    · induction k using Nat.strongRecOn with
      | _ k ih =>
        intro hk
        refine Classical.byContradiction fun hn => ?_
        have hnk : n ≤ k := by
          rcases Nat.lt_or_ge k n with q | q
          · exact absurd (hI.pre k q) hn
          · exact q
        obtain ⟨_, _, g2, _⟩ := sp.bind k hnk hk
        have : k ∈ Region.ready .any ops s := mem_ready hI.size hk hn fun e he hb => by
          have hlt := g2 e he (binds_core hb)
          exact ih e.on hlt (by omega)
        rw [hr] at this; cases this
    · obtain ⟨hi, hn, _⟩ := ready_mem hI.size hr
      have hlt := left_set hI.size hi hn
      exact hI.step hcall hng sp hl hg hr fun a' w' hI' => suf_ok hcall hng sp hl hg hQ fuel _ a' w' hI' (by omega)
end
end Hx

/- The evaluator: a region that is split: the first operations, then the last ones in any order. -/
namespace Hx
open Go

section
variable {P : Program} {call : CallT} {nt n : Nat} {ops ops1 : Array Oper} {F : Fr} {r : Nat → Nat} {v : Nat → AV} {H : Nat → Hp}
variable {ρs : Ren} {ws : World}

theorem lst_app {s1 : Array Bool} {m k : Nat} : Lst (s1 ++ Array.replicate m false) k ↔ Lst s1 k := by
  unfold Lst
  rw [Array.getElem?_append]
  split
  · exact Iff.rfl
  · rename_i q
    rw [Array.getElem?_replicate, Array.getElem?_eq_none (by omega)]
    split <;> simp

theorem set_app {s1 : Array Bool} {m k : Nat} (hk : k < s1.size) : (s1 ++ Array.replicate m false).setIfInBounds k true = s1.setIfInBounds k true ++ Array.replicate m false := by
  apply Array.ext_getElem?
  intro i
  rw [Array.getElem?_setIfInBounds, Array.getElem?_append, Array.getElem?_append, Array.size_setIfInBounds, Array.getElem?_setIfInBounds, Array.size_append]
  by_cases h : k = i
  · subst h
    rw [if_pos rfl, if_pos (by omega), if_pos hk, if_pos rfl, if_pos hk]
  · rw [if_neg h, if_neg h]

theorem pre_ok (hcall : CallOk P call) (hng : NoNG P) (hsz : ops1.size = n) (hle : n ≤ ops.size) (hsame : ∀ k, k < n → opN ops k = opN ops1 k) (hgu : ∀ k, k < n → (opN ops k).guard = none)
    (hbind : ∀ k, n ≤ k → k < ops.size → ∀ j, j < n → ∃ e ∈ (opN ops k).after.toList, coreE e = true ∧ e.on = j)
    (hp : Plan P call nt ops1 F r v H) (hgs : Gl ρs (H 0)) (hls : Lim ρs (H 0)) {Q : Exit → Act → World → Prop}
    (hQ : ∀ (fuel : Nat) (s1 : Array Bool) (m : Nat) (σ : Ren) (a : Act) (w : World), Inv P nt ops1 F r v H ρs ws s1 m σ a w → (∀ k, k < n → Lst s1 k) → left (s1 ++ Array.replicate (ops.size - n) false) ops.size ≤ fuel → wpAny P .any ops Q fuel (s1 ++ Array.replicate (ops.size - n) false) a w) :
    ∀ (fuel : Nat) (s1 : Array Bool) (m : Nat) (σ : Ren) (a : Act) (w : World), Inv P nt ops1 F r v H ρs ws s1 m σ a w → left (s1 ++ Array.replicate (ops.size - n) false) ops.size ≤ fuel → wpAny P .any ops Q fuel (s1 ++ Array.replicate (ops.size - n) false) a w := by
  intro fuel
  induction fuel with
  | zero =>
    intro s1 m σ a w hI hf
    refine hQ 0 s1 m σ a w hI (fun k hk => ?_) hf
    have := left_zero (ops := ops) (s := s1 ++ Array.replicate (ops.size - n) false) (by omega) k (by omega)
    exact lst_app.1 this
  | succ fuel ih =>
    intro s1 m σ a w hI hf
    by_cases hall : ∀ k, k < n → Lst s1 k
    · exact hQ _ s1 m σ a w hI hall hf
    have h1 : s1.size = n := by rw [hI.size, hsz]
    have hs : (s1 ++ Array.replicate (ops.size - n) false).size = ops.size := by rw [Array.size_append, Array.size_replicate, h1]; omega
    refine ⟨fun hr => ?_, fun k hr => ?_⟩
    · refine absurd (fun k hk => ?_) hall
      refine all_listed hp hI.size ?_ k (by rw [hsz]; exact hk)
      cases hq : Region.ready .any ops1 s1 with
      | nil => rfl
      | cons i l =>
        obtain ⟨q1, q2, q3⟩ := ready_mem hI.size (show i ∈ Region.ready .any ops1 s1 by rw [hq]; simp)
        have : i ∈ Region.ready .any ops (s1 ++ Array.replicate (ops.size - n) false) := mem_ready hs (by omega) (fun h => q2 (lst_app.1 h)) fun e he hb => by
          rw [hsame i (by omega)] at he
          exact lst_app.2 (q3 e he (binds_core hb))
        rw [hr] at this; cases this
    · obtain ⟨q1, q2, q3⟩ := ready_mem hs hr
      have hkn : k < n := by
        rcases Nat.lt_or_ge k n with q | q
        · exact q
        · refine absurd (fun j hj => ?_) hall
          obtain ⟨e, e1, e2, e3⟩ := hbind k q q1 j hj
          rw [← e3]
          exact lst_app.1 (q3 e e1 e2)
      have hr1 : k ∈ Region.ready .any ops1 s1 := mem_ready hI.size (by omega) (fun h => q2 (lst_app.2 h)) fun e he hb => by
        rw [← hsame k hkn] at he
        exact lst_app.1 (q3 e he (binds_core hb))
      have key := Inv.run (Q := Q) (K := fun a w => wpAny P .any ops Q fuel ((s1 ++ Array.replicate (ops.size - n) false).setIfInBounds k true) a w) hcall hng hp hgs hls hI hr1 fun m' σ' a' w' hI' => by
        rw [set_app (by omega)]
        refine ih _ m' σ' a' w' hI' ?_
        rw [← set_app (by omega)]
        have := left_set hs q1 q2
        omega
      unfold wpOp at key ⊢
      rw [opN_get (ops := ops) q1]
      rw [opN_get (ops := ops1) (by omega)] at key
      simp only at key ⊢
      have g1 := hgu k hkn
      have w1 : ∀ (o : Oper) y, o.guard = none → Region.wanted o y = true := fun o y h => by unfold Region.wanted; rw [h]
      rw [w1 _ _ g1, if_pos rfl, hsame k hkn]
      rw [w1 _ _ (by rw [← hsame k hkn]; exact g1), if_pos rfl] at key
      exact key

theorem findD_out {t : Nat} : ∀ {ds : List (Option Nat)}, (∀ d ∈ ds, d ≠ some t) → findD ds t = none
  | [], _ => rfl
  | none :: ds, h => by rw [findD_none, findD_out fun d hd => h d (by simp [hd])]; rfl
  | some d :: ds, h => by
    rw [findD_some, if_neg (fun e => h (some d) (by simp) (by rw [e])), findD_out fun d hd => h d (by simp [hd])]; rfl

theorem split_ok {outs id x y : Nat} (hm : P.follows .mixedOrders = true) (hcall : CallOk P call) (hng : NoNG P) {F' : Fr} {h h' : Hp} {ρ : Ren} {a : Act} {w : World}
    (hr : splitX P nt outs call ops.toList n x y id F h = .norm F' h') (hw : WR ρ h w) (hl : Lim ρ h) (hg : Gl ρ h) (hf : FR ρ F [] [] a) (hfm : Fm nt outs F a) : (Code.region id ops true).wp P (Done nt outs (.norm F' h') ρ h w) a w := by
  unfold splitX at hr
  generalize hops1 : (ops.toList.take n).toArray = ops1
  have hl1 : ops.toList.take n = ops1.toList := by rw [← hops1]
  rw [hl1] at hr
  cases hpr : regionX P nt (Nat.lor outs (slotsM ops.toList)) call ops1.toList true id F h with
  | bad q => rw [hpr] at hr; cases hr
  | exit q1 q2 q3 => rw [hpr] at hr; cases hr
  | ret q1 q2 => rw [hpr] at hr; cases hr
  | norm F1 h1 =>
  rw [hpr] at hr
  simp only at hr
  cases hsq : seqF P (ops.toList.drop n) F1 with
  | none => rw [hsq] at hr; cases hr
  | some G =>
  rw [hsq] at hr
  simp only at hr
  cases hc : (allNG ops1.toList && sufOk P nt n x y G (ops.toList.drop n) (ops.toList.drop n) n && Nat.ble n (lenN ops.toList) && Nat.ble n x && Nat.blt x y && neS (adS P G ((ops.toList[x]?).getD default)) (adS P G ((ops.toList[y]?).getD default))) with
  | false => rw [hc] at hr; cases hr
  | true =>
  rw [hc] at hr
  simp only [cond_true] at hr
  simp only [Bool.and_eq_true] at hc
  obtain ⟨⟨⟨⟨⟨c1, c2⟩, c3⟩, c4⟩, c5⟩, c6⟩ := hc
  rw [ble_nat, lenN_eq] at c3
  rw [ble_nat] at c4
  rw [blt_nat] at c5
  have c3 : n ≤ ops.size := by simpa using c3
  have c4 : n ≤ x := by simpa using c4
  have c5 : x < y := by simpa using c5
  have oN : ∀ k, (ops.toList[k]?).getD default = opN ops k := fun k => by unfold opN; rw [Array.getElem?_toList]
  rw [oN, oN] at hr c6
  cases hs1 : stS P G (opN ops x) h1 with
  | bad q => rw [hs1] at hr; cases hr
  | ok u2 h2 =>
  rw [hs1] at hr
  simp only at hr
  cases hs2 : stS P G (opN ops y) h2 with
  | bad q => rw [hs2] at hr; cases hr
  | ok u3 h3 =>
  rw [hs2] at hr
  simp only [XR.norm.injEq] at hr
  obtain ⟨rfl, rfl⟩ := hr
  -- the stores
  have stOf : ∀ (o : Oper) (k k' : Hp) (u : AV), stS P G o k = .ok u k' → o.dst = none ∧ ∃ m b v, compOp P [] o = .e (.st m b v) ∧ adS P G o = ev G [] b ∧ stV m (ev G [] b) (ev G [] v) k = .ok u k' := fun o k k' u hs => by
    unfold stS at hs
    split at hs
    · rename_i m b v hd hcc
      exact ⟨hd, m, b, v, hcc, by unfold adS; rw [hcc], hs⟩
    · cases hs
  obtain ⟨d1, m1, b1, v1, p1, a1, t1⟩ := stOf _ _ _ _ hs1
  obtain ⟨d2, m2, b2, v2, p2, a2, t2⟩ := stOf _ _ _ _ hs2
  obtain ⟨i, off1, B, e1, _, rfl, k1⟩ := stV_put t1
  obtain ⟨j, off2, C, e2, _, rfl, k2⟩ := stV_put t2
  rw [a1, a2, e1, e2] at c6
  have hij : i ≠ j := by
    intro e
    subst e
    have c6 : (!(Nat.beq i i)) = true := c6
    rw [show Nat.beq i i = true from Nat.beq_refl i] at c6
    cases c6
  -- the last operations
  have sget : ∀ k, n ≤ k → k < ops.size → (ops.toList.drop n)[k - n]? = some (opN ops k) := fun k h1 h2 => by
    rw [List.getElem?_drop, show n + (k - n) = k by omega, Array.getElem?_toList, opN_get h2]
  have sp : SP P nt n x y ops G h1 i B j C := by
    refine ⟨by omega, hij, fun k q1 q2 => ?_, fun k q1 q2 q3 q4 => ?_, ⟨d1, m1, b1, v1, p1, k1⟩, ⟨d2, m2, b2, v2, p2, fun h2 hh => k2 h2 (by rw [hh]; exact (Tr.get_set_ne _ _ (fun e => hij e.symm)).symm)⟩⟩
    · obtain ⟨g0, g1, g2, g3, _⟩ := sufOk_ok c2 (k - n) _ (sget k q1 q2)
      rw [show n + (k - n) = k by omega] at g2
      refine ⟨g0, bindsAll_ok g1, fun e he hc => backO_ok g2 he hc, fun k' r1 r2 d hd hm => ?_⟩
      obtain ⟨e, e1, e2, e3⟩ := seesOk_ok g3 (k' - n) _ (sget k' r1 r2) d hd hm
      exact ⟨e, e1, e2, by rw [e3]; omega⟩
    · obtain ⟨_, _, _, _, g4⟩ := sufOk_ok c2 (k - n) _ (sget k q1 q2)
      rcases g4 with g | g | g
      · omega
      · omega
      · unfold pureOk at g
        split at g
        · rename_i d hd
          rw [Bool.and_eq_true, blt_nat] at g
          obtain ⟨g1, g2⟩ := g
          split at g2
          · rename_i q hq
            split at g2
            · rename_i u hu
              exact ⟨d, q, hd, by simpa using g1, hq, by rw [hu, eqA_ok g2]⟩
            · cases g2
          · cases g2
        · cases g
  -- the first operations
  have hsz : ops1.size = n := by rw [← hops1]; simp; omega
  have hsame : ∀ k, k < n → opN ops k = opN ops1 k := fun k hk => by
    have : ops1[k]? = ops[k]? := by
      rw [← Array.getElem?_toList, ← Array.getElem?_toList, ← hl1, List.getElem?_take, if_pos hk]
    unfold opN; rw [this]
  have hfm1 : Fm nt (Nat.lor outs (slotsM ops.toList)) F a := ⟨fun t v hv => by
    show Nat.testBit (outs ||| slotsM ops.toList) t = true
    rw [Nat.testBit_or, hfm.outs t v hv, Bool.true_or], hfm.size, hfm.defers⟩
  have hpr : (match planD P nt ops1.toList with
      | some gs => rdX F (keepL (Nat.lor outs (slotsM ops.toList)) (ops1.toList.reverse.map (·.dst)) 0) gs (opsG P call (compOps P nt ops1.toList ops1.toList []) F [] h [h]) id
      | none => .bad [id, 3333333]) = XR.norm F1 h1 := hpr
  cases hpd : planD P nt ops1.toList with
  | none => rw [hpd] at hpr; cases hpr
  | some gs =>
  rw [hpd] at hpr
  obtain ⟨r, v, H, hp, rfl, rfl, rfl⟩ := plan_of hpd hpr
  refine wp_region_any hm ?_
  have hcut : ρ.cut (H 0).next = ρ := by
    funext k
    unfold Ren.cut
    split
    · rfl
    · exact (hl k (by omega)).symm
  have h0 : Ext ρ ρ (H 0) (H 0) w { w with drawn := w.drawn + 1 } :=
    ⟨hw.same rfl, hl, Ren.le_refl _, Nat.le_refl _, Nat.le_refl _, fun _ _ _ h => .inl h, fun _ _ _ => rfl, fun _ _ h => h, fun _ _ _ h _ => h, rfl, rfl, rfl⟩
  have hno : ∀ j, ¬ Lst (Array.replicate ops1.size false) j := fun j hj => by
    unfold Lst at hj
    rw [Array.getElem?_replicate] at hj
    split at hj <;> cases hj
  have hI : Inv P nt ops1 F r v H ρ w (Array.replicate ops1.size false) 0 ρ a { w with drawn := w.drawn + 1 } :=
    { size := by simp, clos := fun j _ hj => absurd hj (hno j), mle := Nat.zero_le _, mact := .inl rfl, acts := fun j _ _ => ⟨fun h => absurd h (hno j), fun h => by omega⟩, ext := by rw [hcut]; exact h0,
      made := fun j _ _ h => absurd h (hno j), pend := fun k hk => .inl (hl k hk), inj := hw.inj, bd := hw.bd, vals := fun j _ h => absurd h (hno j), slots := fun t _ => by
        rw [hcut]
        have := hf t
        rw [co_tmp, findD_nil] at this
        exact this, tsz := hfm.size, dfr := hfm.defers }
  have hrep : Array.replicate ops.size false = Array.replicate ops1.size false ++ Array.replicate (ops.size - n) false := by
    rw [hsz, Array.replicate_append_replicate, show n + (ops.size - n) = ops.size by omega]
  rw [hrep]
  refine pre_ok hcall hng hsz c3 hsame (fun k hk => allNG_ok c1 _ (by
    rw [hsame k hk]
    have := opN_get (ops := ops1) (i := k) (by omega)
    rw [← Array.getElem?_toList] at this
    exact List.mem_of_getElem? this)) (fun k q1 q2 => (sp.bind k q1 q2).2.1) hp hg hl (fun fuel s1 m σ a' w' hI' hall hfuel => ?_) ops.size _ 0 ρ a _ hI ?_
  · have e := hI'.absorbed hI'.mle (Nat.le_refl _) fun j _ h2 => .inr (hall j (by omega))
    have hfr : FR (σ.cut (H ops1.size).next) F (dsv ops1 ops1.size) (Lv v ops1.size) a' := fun t => by
      rw [co_tmp]
      rcases findD_dsv ops1 t ops1.size with ⟨k, h1, h2, h3⟩ | ⟨h1, h2⟩
      · rw [h1]
        simp only
        rw [ev_l, Lv_nth v _ k h2]
        have hj : ops1.size - 1 - k < ops1.size := by omega
        exact (lowA_ok (hp.low hj) (hI'.vals _ hj (hall _ (by omega)) t h3)).mono (cut_le σ (hp.next_mono (by omega) (by omega)))
      · rw [h1]
        simp only
        have hs := hI'.slots t fun j hj _ => h2 j hj
        rw [ev_f] at hs ⊢
        exact hs.mono (cut_le σ (hp.next_mono hI'.mle (Nat.le_refl _)))
    rw [← dsv_rev] at hfr
    obtain ⟨k1, k2⟩ := keep_ok hfr hfm1 hI'.tsz hI'.dfr
    have hs1 : s1.size = n := by rw [hI'.size, hsz]
    have nolist : ∀ k, n ≤ k → ¬ Lst (s1 ++ Array.replicate (ops.size - n) false) k := fun k hk hL => by
      have hL := lst_app.1 hL
      unfold Lst at hL
      rw [Array.getElem?_eq_none (by omega)] at hL
      cases hL
    have noDst : ∀ t, (∀ k, n ≤ k → k < ops.size → (opN ops k).dst ≠ some t) → ∀ o ∈ ops.toList.drop n, o.dst ≠ some t := fun t ht o ho => by
      obtain ⟨k, hk⟩ := List.mem_iff_getElem?.1 ho
      rw [List.getElem?_drop, Array.getElem?_toList] at hk
      have hlt : n + k < ops.size := (Array.getElem?_eq_some_iff.1 hk).1
      have := ht (n + k) (by omega) hlt
      unfold opN at this
      rw [hk] at this
      exact this
    refine suf_ok (h := H 0) (w0 := w) (ρ0 := ρ) hcall hng sp hl hg (fun s a'' w'' hS hallS => ?_) fuel _ a' w' ⟨by rw [Array.size_append, Array.size_replicate, hs1]; omega, fun k hk => lst_app.2 (hall k hk), ⟨σ.cut (H ops1.size).next, ?_, fun t ht => ?_⟩, hI'.tsz, hI'.dfr⟩ hfuel
    · obtain ⟨ρ', ex, sl⟩ := hS.run
      have hlt : x < ops.size ∧ y < ops.size := by
        have key : ∀ k, (∃ m b v, compOp P [] (opN ops k) = .e (.st m b v)) → k < ops.size := fun k ⟨m, b, v, hk⟩ => by
          rcases Nat.lt_or_ge k ops.size with q | q
          · exact q
          · unfold opN at hk
            rw [Array.getElem?_eq_none q] at hk
            cases hk
        exact ⟨key x ⟨_, _, _, p1⟩, key y ⟨_, _, _, p2⟩⟩
      rw [getD_yes (hallS x hlt.1), getD_yes (hallS y hlt.2)] at ex
      refine ⟨_, _, .inl ⟨rfl, rfl⟩, ρ', ex, fun t => ?_, ⟨fun t u hu => ?_, hS.tsz, hS.dfr⟩⟩
      · rw [co_tmp, findD_nil]
        simp only
        have hslt := sl t fun k _ hk _ => hallS k hk
        rcases keepS_get outs G F t ops.toList with ⟨_, _, q3⟩ | ⟨q1, q2⟩
        · rw [ev_f, q3]; exact hslt
        · rw [ev_f, q2]
          rcases q1 with q1 | q1
          · have hG : G.get t = F.get t := by
              rw [seqF_get t hsq fun o ho => q1 o (List.mem_of_mem_drop ho), keep_get, findD_out]
              intro d hd
              rw [List.mem_map] at hd
              obtain ⟨o, ho, rfl⟩ := hd
              rw [List.mem_reverse, ← hl1] at ho
              exact q1 o (List.mem_of_mem_take ho)
            rw [ev_f, hG] at hslt
            exact hslt
          · cases hq : F.get t with
            | none => exact .bot _
            | some u => have := hfm.outs t u hq; rw [q1] at this; cases this
      · rcases keepS_get outs G F t ops.toList with ⟨_, q2, _⟩ | ⟨_, q2⟩
        · exact q2
        · rw [q2] at hu; exact hfm.outs t u hu
    · have gx := getD_not (nolist x c4)
      have gy := getD_not (nolist y (by omega))
      rw [gx, gy]
      exact e
    · have hG := seqF_get t hsq (noDst t fun k q1 q2 q3 => nolist k q1 (ht k q1 q2 q3))
      have := k1 t
      rw [co_tmp, findD_nil] at this
      simp only at this
      rw [ev_f] at this ⊢
      rw [hG]; exact this
  · unfold left
    have : ∀ (f : Nat → Bool) n, cnt f n ≤ n := by
      intro f n
      induction n with
      | zero => exact Nat.le_refl _
      | succ n ih => simp only [cnt]; split <;> omega
    exact this _ _
end
end Hx

/- The evaluator: code and calls, with regions that are split. -/
namespace Hx
open Go

noncomputable section
def regS (P : Program) (nt outs : Nat) (call : CallT) (ops : List Oper) (draw : Bool) (id : Nat) (F : Fr) (h : Hp) : XR :=
  Bool.rec (motive := fun _ => XR)
    (OR.rec (motive := fun _ => XR) (fun L h => .norm (keepF L (keepL outs (ops.reverse.map (·.dst)) 0) F) h) (fun w => .bad (id :: w)) (opsX P call (compOps P nt ops ops []) F [] h))
    (match planD P nt ops with
      | some gs => rdX F (keepL outs (ops.reverse.map (·.dst)) 0) gs (opsG P call (compOps P nt ops ops []) F [] h [h]) id
      | none => splitX P nt outs call ops (Nat.sub (lenN ops) 5) (Nat.sub (lenN ops) 4) (Nat.sub (lenN ops) 1) id F h) draw

def codeS (P : Program) (nt outs : Nat) (call : CallT) (fuel : Nat) (c : Code) : Fr → Hp → XR :=
  Code.rec (motive := fun _ => Fr → Hp → XR)
    (fun F h => .norm F h)
    (fun id ops draw => regS P nt outs call ops.toList draw id)
    (fun _ _ ia ib F h => XR.rec (motive := fun _ => XR) (fun F h => ib F h) (fun id F h => .exit id F h) (fun F h => .ret F h) (fun w => .bad w) (ia F h))
    (fun c _ _ ia ib F h => match ev F [] (co [] c) with
      | .bool b => Bool.rec (motive := fun _ => XR) (ib F h) (ia F h) b
      | _ => .bad [1000000])
    (fun id _ ib F h => XR.rec (motive := fun _ => XR) (fun F h => .norm F h) (fun j F h => bif Nat.beq j id then .norm F h else .exit j F h) (fun F h => .ret F h) (fun w => .bad w) (ib F h))
    (fun _ ib => iterX ib fuel)
    (fun _ _ _ _ _ _ _ _ => .bad [1000001])
    (fun id F h => .exit id F h)
    (fun _ _ _ _ => .bad [1000002])
    (fun _ _ _ => .bad [1000003])
    (fun _ _ _ => .bad [1000004])
    (fun F h => .ret F h)
    (fun _ _ _ => .bad [1000005]) c

def stepS (P : Program) (fuel : Nat) (call : CallT) : CallT := fun f l h => match P.funcs[f]? with
  | some fn => (match fn.body with
    | some c => resZ P fn (codeS P fn.ntmps (outsF fn) call fuel c) l h
    | none => .bad [f])
  | none => .bad [f]
/-- ty.Sub's Unify and copied, strings.Join: by others -/
def plugV (P : Program) (fuel fU fC fJ : Nat) (fnU fnC : Func) (call : CallT) : CallT := fun f l h =>
  bif Nat.beq f fU then resZ P fnU (xUnify P fnU.ntmps (outsF fnU) fuel (fnBody fnU) call) l h else
  bif Nat.beq f fC then resZ P fnC (xCopied P fnC.ntmps (outsF fnC) fuel (fnBody fnC) call) l h else
  bif Nat.beq f fJ then joinX l h else stepS P fuel call f l h
end

section
variable {P : Program}

theorem splitX_norm (P : Program) (nt outs : Nat) (call : CallT) (ops : List Oper) (n x y : Nat) (id : Nat) (F : Fr) (h : Hp) : (∃ F' h', splitX P nt outs call ops n x y id F h = .norm F' h') ∨ ∃ w, splitX P nt outs call ops n x y id F h = .bad w := by
  unfold splitX
  split
  · split
    · cases (allNG (ops.take n) && sufOk P nt n x y _ (ops.drop n) (ops.drop n) n && Nat.ble n (lenN ops) && Nat.ble n x && Nat.blt x y && neS (adS P _ ((ops[x]?).getD default)) (adS P _ ((ops[y]?).getD default))) with
      | false => exact .inr ⟨_, rfl⟩
      | true =>
        simp only [cond_true]
        split
        · split
          · exact .inl ⟨_, _, rfl⟩
          · exact .inr ⟨_, rfl⟩
        · exact .inr ⟨_, rfl⟩
    · exact .inr ⟨_, rfl⟩
  · exact .inr ⟨_, rfl⟩
  · exact .inr ⟨_, rfl⟩

theorem codeS_skip (nt outs : Nat) (call : CallT) (fuel : Nat) (F : Fr) (h : Hp) : codeS P nt outs call fuel .skip F h = .norm F h := rfl
theorem codeS_region (nt outs : Nat) (call : CallT) (fuel : Nat) (id : Nat) (ops : Array Oper) (draw : Bool) (F : Fr) (h : Hp) : codeS P nt outs call fuel (.region id ops draw) F h = regS P nt outs call ops.toList draw id F h := rfl
theorem codeS_seq (nt outs : Nat) (call : CallT) (fuel : Nat) (x y : Code) (F : Fr) (h : Hp) : codeS P nt outs call fuel (.seq x y) F h = (match codeS P nt outs call fuel x F h with | .norm F h => codeS P nt outs call fuel y F h | .exit id F h => .exit id F h | .ret F h => .ret F h | .bad w => .bad w) := by
  show XR.rec (motive := fun _ => XR) (fun F h => codeS P nt outs call fuel y F h) (fun id F h => .exit id F h) (fun F h => .ret F h) (fun w => .bad w) (codeS P nt outs call fuel x F h) = _
  cases codeS P nt outs call fuel x F h <;> rfl
theorem codeS_cond (nt outs : Nat) (call : CallT) (fuel : Nat) (c : Operand) (x y : Code) (F : Fr) (h : Hp) : codeS P nt outs call fuel (.cond c x y) F h = (match ev F [] (co [] c) with | .bool true => codeS P nt outs call fuel x F h | .bool false => codeS P nt outs call fuel y F h | _ => .bad [1000000]) := by
  show (match ev F [] (co [] c) with
      | .bool b => Bool.rec (motive := fun _ => XR) (codeS P nt outs call fuel y F h) (codeS P nt outs call fuel x F h) b
      | _ => .bad [1000000]) = _
  cases ev F [] (co [] c) <;> try rfl
  rename_i b
  cases b <;> rfl
theorem codeS_block (nt outs : Nat) (call : CallT) (fuel : Nat) (id : Nat) (x : Code) (F : Fr) (h : Hp) : codeS P nt outs call fuel (.block id x) F h = (match codeS P nt outs call fuel x F h with | .norm F h => .norm F h | .exit j F h => (bif Nat.beq j id then .norm F h else .exit j F h) | .ret F h => .ret F h | .bad w => .bad w) := by
  show XR.rec (motive := fun _ => XR) (fun F h => .norm F h) (fun j F h => bif Nat.beq j id then .norm F h else .exit j F h) (fun F h => .ret F h) (fun w => .bad w) (codeS P nt outs call fuel x F h) = _
  cases codeS P nt outs call fuel x F h <;> rfl
theorem codeS_loop (nt outs : Nat) (call : CallT) (fuel : Nat) (x : Code) (F : Fr) (h : Hp) : codeS P nt outs call fuel (.loop x) F h = iterX (codeS P nt outs call fuel x) fuel F h := rfl
theorem codeS_exit (nt outs : Nat) (call : CallT) (fuel : Nat) (id : Nat) (F : Fr) (h : Hp) : codeS P nt outs call fuel (.exit id) F h = .exit id F h := rfl
theorem codeS_ret (nt outs : Nat) (call : CallT) (fuel : Nat) (F : Fr) (h : Hp) : codeS P nt outs call fuel .ret F h = .ret F h := rfl

theorem codeS_ok {call : CallT} (hmx : P.follows .mixedOrders = true) (hcall : CallOk P call) (hng : NoNG P) {nt outs fuel : Nat} : ∀ c : Code, CodeOk P nt outs c (codeS P nt outs call fuel c) := by
  intro c
  induction c with
  | skip => intro F h a w ρ _ hw hl _ hf hm; exact wp_skip ⟨F, h, .inl ⟨rfl, rfl⟩, ρ, Ext.rfl hw hl, hf, hm⟩
  | region id ops draw =>
    intro F h a w ρ hgood hw hl hg hf hm
    rw [codeS_region] at hgood ⊢
    cases draw with
    | false => exact code_ok (fuel := fuel) hmx hcall hng (.region id ops false) F h a w ρ hgood hw hl hg hf hm
    | true =>
      cases hpd : planD P nt ops.toList with
      | some gs =>
        have e : regS P nt outs call ops.toList true id F h = regionX P nt outs call ops.toList true id F h := by
          show (match planD P nt ops.toList with
            | some gs => rdX F (keepL outs (ops.toList.reverse.map (fun o : Oper => o.dst)) 0) gs (opsG P call (compOps P nt ops.toList ops.toList []) F [] h [h]) id
            | none => splitX P nt outs call ops.toList (Nat.sub (lenN ops.toList) 5) (Nat.sub (lenN ops.toList) 4) (Nat.sub (lenN ops.toList) 1) id F h) = (match planD P nt ops.toList with
            | some gs => rdX F (keepL outs (ops.toList.reverse.map (fun o : Oper => o.dst)) 0) gs (opsG P call (compOps P nt ops.toList ops.toList []) F [] h [h]) id
            | none => .bad [id, 3333333])
          rw [hpd]
        rw [e] at hgood ⊢
        exact code_ok (fuel := fuel) hmx hcall hng (.region id ops true) F h a w ρ hgood hw hl hg hf hm
      | none =>
        have e : regS P nt outs call ops.toList true id F h = splitX P nt outs call ops.toList (Nat.sub (lenN ops.toList) 5) (Nat.sub (lenN ops.toList) 4) (Nat.sub (lenN ops.toList) 1) id F h := by
          show (match planD P nt ops.toList with
            | some gs => rdX F (keepL outs (ops.toList.reverse.map (fun o : Oper => o.dst)) 0) gs (opsG P call (compOps P nt ops.toList ops.toList []) F [] h [h]) id
            | none => splitX P nt outs call ops.toList (Nat.sub (lenN ops.toList) 5) (Nat.sub (lenN ops.toList) 4) (Nat.sub (lenN ops.toList) 1) id F h) = _
          rw [hpd]
        rw [e] at hgood ⊢
        rcases splitX_norm P nt outs call ops.toList (Nat.sub (lenN ops.toList) 5) (Nat.sub (lenN ops.toList) 4) (Nat.sub (lenN ops.toList) 1) id F h with ⟨F', h', hr⟩ | ⟨y, hr⟩
        · rw [hr]
          exact split_ok hmx hcall hng hr hw hl hg hf hm
        · exact absurd hr (hgood y)
  | seq x y ihx ihy =>
    intro F h a w ρ hgood hw hl hg hf hm
    rw [codeS_seq] at hgood ⊢
    refine wp_seq ?_
    cases hx : codeS P nt outs call fuel x F h with
    | bad q => rw [hx] at hgood; exact absurd rfl (hgood q)
    | norm F1 h1 =>
      rw [hx] at hgood
      refine wp_mono (ihx F h a w ρ (by rw [hx]; intro y e; cases e) hw hl hg hf hm) fun e a' w' hd => ?_
      rw [hx] at hd
      obtain ⟨F', h', hor, ρ', he, hf', hm'⟩ := hd
      rcases hor with ⟨q, rfl⟩ | ⟨q, _⟩ | ⟨j, q, _⟩
      · simp only [XR.norm.injEq] at q
        obtain ⟨rfl, rfl⟩ := q
        exact wp_mono (ihy F1 h1 a' w' ρ' hgood he.wr he.lim (hg.ext hl he) hf' hm') fun e a w hd => done_mono hl he hd
      · cases q
      · cases q
    | exit id F1 h1 =>
      refine wp_mono (ihx F h a w ρ (by rw [hx]; intro y e; cases e) hw hl hg hf hm) fun e a' w' hd => ?_
      rw [hx] at hd
      obtain ⟨F', h', hor, rest⟩ := hd
      rcases hor with ⟨q, _⟩ | ⟨q, _⟩ | ⟨j, q, rfl⟩
      · cases q
      · cases q
      · exact ⟨F', h', .inr (.inr ⟨j, q, rfl⟩), rest⟩
    | ret F1 h1 =>
      refine wp_mono (ihx F h a w ρ (by rw [hx]; intro y e; cases e) hw hl hg hf hm) fun e a' w' hd => ?_
      rw [hx] at hd
      obtain ⟨F', h', hor, rest⟩ := hd
      rcases hor with ⟨q, _⟩ | ⟨q, rfl⟩ | ⟨j, q, _⟩
      · cases q
      · exact ⟨F', h', .inr (.inl ⟨q, rfl⟩), rest⟩
      · cases q
  | cond c x y ihx ihy =>
    intro F h a w ρ hgood hw hl hg hf hm
    rw [codeS_cond] at hgood ⊢
    have h1 := opnd_ok hg hf c
    generalize ev F [] (co [] c) = z at hgood h1
    cases z with
    | bool b =>
      cases b with
      | true =>
        generalize hq : a.eval c = q at h1
        cases h1
        exact wp_cond_true hq (ihx F h a w ρ hgood hw hl hg hf hm)
      | false =>
        generalize hq : a.eval c = q at h1
        cases h1
        exact wp_cond_false hq (ihy F h a w ρ hgood hw hl hg hf hm)
    | _ => exact absurd rfl (hgood _)
  | block id x ih =>
    intro F h a w ρ hgood hw hl hg hf hm
    rw [codeS_block] at hgood ⊢
    refine wp_block ?_
    cases hx : codeS P nt outs call fuel x F h with
    | bad q => rw [hx] at hgood; exact absurd rfl (hgood q)
    | norm F1 h1 =>
      refine wp_mono (ih F h a w ρ (by rw [hx]; intro y e; cases e) hw hl hg hf hm) fun e a' w' hd => ?_
      rw [hx] at hd
      obtain ⟨F', h', hor, rest⟩ := hd
      rcases hor with ⟨q, rfl⟩ | ⟨q, _⟩ | ⟨j, q, _⟩
      · exact ⟨F', h', .inl ⟨q, rfl⟩, rest⟩
      · cases q
      · cases q
    | exit j F1 h1 =>
      refine wp_mono (ih F h a w ρ (by rw [hx]; intro y e; cases e) hw hl hg hf hm) fun e a' w' hd => ?_
      rw [hx] at hd
      obtain ⟨F', h', hor, rest⟩ := hd
      rcases hor with ⟨q, _⟩ | ⟨q, _⟩ | ⟨j', q, rfl⟩
      · cases q
      · cases q
      · simp only [XR.exit.injEq] at q
        obtain ⟨rfl, rfl, rfl⟩ := q
        show (if j = id then Done nt outs (bif Nat.beq j id then XR.norm F1 h1 else XR.exit j F1 h1) ρ h w .normal a' w' else Done nt outs (bif Nat.beq j id then XR.norm F1 h1 else XR.exit j F1 h1) ρ h w (.exit j) a' w')
        rw [beq_nat]
        by_cases hji : j = id
        · rw [if_pos hji]
          simp only [hji, decide_true, cond_true]
          exact ⟨F1, h1, .inl ⟨rfl, rfl⟩, rest⟩
        · rw [if_neg hji]
          simp only [hji, decide_false, cond_false]
          exact ⟨F1, h1, .inr (.inr ⟨j, rfl, rfl⟩), rest⟩
    | ret F1 h1 =>
      refine wp_mono (ih F h a w ρ (by rw [hx]; intro y e; cases e) hw hl hg hf hm) fun e a' w' hd => ?_
      rw [hx] at hd
      obtain ⟨F', h', hor, rest⟩ := hd
      rcases hor with ⟨q, _⟩ | ⟨q, rfl⟩ | ⟨j, q, _⟩
      · cases q
      · exact ⟨F', h', .inr (.inl ⟨q, rfl⟩), rest⟩
      · cases q
  | loop x ih =>
    intro F h a w ρ hgood hw hl hg hf hm
    rw [codeS_loop] at hgood ⊢
    exact wp_loop_rounds fuel (loop_ok ih fuel F h a w ρ hgood hw hl hg hf hm)
  | exit id => intro F h a w ρ _ hw hl _ hf hm; exact wp_exit ⟨F, h, .inr (.inr ⟨id, rfl, rfl⟩), ρ, Ext.rfl hw hl, hf, hm⟩
  | ret => intro F h a w ρ _ hw hl _ hf hm; exact wp_ret ⟨F, h, .inr (.inl ⟨rfl, rfl⟩), ρ, Ext.rfl hw hl, hf, hm⟩
  | _ => intro F h a w ρ hgood; exact absurd rfl (hgood _)

theorem stepS_ok (hmx : P.follows .mixedOrders = true) (hng : NoNG P) (fuel : Nat) {call : CallT} (hcall : CallOk P call) : CallOk P (stepS P fuel call) :=
  fun f l h v h' hr ρ w args ha hw hl hg => by
    unfold stepS at hr
    cases hfn : P.funcs[f]? with
    | none => rw [hfn] at hr; cases hr
    | some fn =>
      rw [hfn] at hr
      simp only at hr
      cases hb : fn.body with
      | none => rw [hb] at hr; cases hr
      | some c =>
        rw [hb] at hr
        have := fun_ok hfn hb (codeS_ok (fuel := fuel) hmx hcall hng c) l h v h' hr ρ w args ha hw hl hg
        rw [hfn] at this
        exact this

theorem plugV_ok {fuel fU fC fJ : Nat} {fnU fnC : Func} {call : CallT} (hU : OvOk P fU (resZ P fnU (xUnify P fnU.ntmps (outsF fnU) fuel (fnBody fnU) call))) (hC : OvOk P fC (resZ P fnC (xCopied P fnC.ntmps (outsF fnC) fuel (fnBody fnC) call))) (hJ : OvOk P fJ joinX) (hS : CallOk P (stepS P fuel call)) : CallOk P (plugV P fuel fU fC fJ fnU fnC call) :=
  fun f l h v h' hv ρ w args ha hw hl hg => by
    unfold plugV at hv
    cases h1 : Nat.beq f fU with
    | true =>
      rw [h1] at hv
      have := beqN_true h1
      subst this
      exact hU l h v h' hv ρ w args ha hw hl hg
    | false =>
      cases h2 : Nat.beq f fC with
      | true =>
        rw [h1, h2] at hv
        have := beqN_true h2
        subst this
        exact hC l h v h' hv ρ w args ha hw hl hg
      | false =>
        cases h3 : Nat.beq f fJ with
        | true =>
          rw [h1, h2, h3] at hv
          have := beqN_true h3
          subst this
          exact hJ l h v h' hv ρ w args ha hw hl hg
        | false =>
          rw [h1, h2, h3] at hv
          exact hS f l h v h' hv ρ w args ha hw hl hg
end
end Hx

/- The evaluator: code by its parts: what stands in the place of Unify and copied, by closed facts. -/
namespace Hx
open Go

section
variable {P : Program}
def cId (c : Code) : Nat := match c with | .block id _ => id | .region id _ _ => id | _ => 0
def cOps (c : Code) : Array Oper := match c with | .region _ ops _ => ops | _ => #[]
def oAt (c : Code) (i : Nat) : Oper := ((cOps c).toList[i]?).getD default
/-- a loop over a map: its part, from the block that holds the loop -/
def loopL (c : Code) : Code := cLoop (cBlk c)

theorem range_of {c : Code} {it tn tc id : Nat} {B : Code} (h1 : c = .seq (.region (cId (cA c)) (cOps (cA c)) false) (.seq (.cond (.tmp tc) .skip (.exit id)) B)) (h2 : (cOps (cA c)).toList = [oAt (cA c) 0, oAt (cA c) 1])
    (h3 : (oAt (cA c) 0).op = .next (.tmp it) false) (h4 : (oAt (cA c) 0).dst = some tn) (h5 : (oAt (cA c) 0).guard = none) (h6 : (oAt (cA c) 1).op = .extract (.tmp tn) 0) (h7 : (oAt (cA c) 1).dst = some tc) (h8 : (oAt (cA c) 1).guard = none) : RangeShape c it tn tc id B :=
  ⟨_, _, _, _, h1, h2, h3, h4, h5, h6, h7, h8⟩
theorem entry_of {c : Code} {it tn tk tv : Nat} (h1 : c = .region (cId c) (cOps c) false) (h2 : (cOps c).toList = [oAt c 0, oAt c 1, oAt c 2])
    (h3 : (oAt c 0).op = .entry (.tmp it)) (h4 : (oAt c 0).dst = some tn) (h5 : (oAt c 0).guard = none) (h6 : (oAt c 1).op = .extract (.tmp tn) 0) (h7 : (oAt c 1).dst = some tk) (h8 : (oAt c 1).guard = none) (h9 : (oAt c 2).op = .assign (.tmp tk)) (h10 : (oAt c 2).dst = some tv) (h11 : (oAt c 2).guard = none) : EntryShape c it tn tk tv :=
  ⟨_, _, _, _, _, h1, h2, h3, h4, h5, h6, h7, h8, h9, h10, h11⟩

/-- Unify, whose code is c -/
theorem ovU {f fuel id id1 : Nat} {fn : Func} {call : CallT} {c0 c1 c2 c3 c4 z L R Rest : Code} (hmx : P.follows .mixedOrders = true) (hng : NoNG P) (hcall : CallOk P call) (hfn : P.funcs[f]? = some fn) (hb : fn.body = some (fnBody fn))
    (hs : fnBody fn = .seq c0 (.seq c1 (.seq c2 (.seq c3 (.seq (.seq c4 (.block id (.loop L))) z))))) (hL : RangeShape L 31 32 33 id (.block id1 (.seq R Rest))) (hR : EntryShape R 31 34 35 9) (hnt : 36 ≤ fn.ntmps) :
    OvOk P f (resZ P fn (xUnify P fn.ntmps (outsF fn) fuel (fnBody fn) call)) := by
  have h := xUnify_ok (fuel := fuel) (outs := outsF fn) (c0 := c0) (c1 := c1) (c2 := c2) (c3 := c3) (c4 := c4) (z := z) hmx hng hcall hL hR hnt
  rw [← hs] at h
  exact fun_ok hfn hb h

/-- copied, whose code is c -/
theorem ovC {f fuel id id1 : Nat} {fn : Func} {call : CallT} {c0 c1 c2 z L B : Code} {zs : List AV} (hmx : P.follows .mixedOrders = true) (hng : NoNG P) (hcall : CallOk P call) (hfn : P.funcs[f]? = some fn) (hb : fn.body = some (fnBody fn))
    (hs : fnBody fn = .seq c0 (.seq c1 (.seq (.seq c2 (.block id (.loop L))) z))) (hL : RangeShape L 16 17 18 id (.block id1 B)) (hB : CopyShape P fn.ntmps (outsF fn) B 16 3 19 20 21 5 4 22 23 24 4 zs) (hnt : 25 ≤ fn.ntmps) :
    OvOk P f (resZ P fn (xCopied P fn.ntmps (outsF fn) fuel (fnBody fn) call)) := by
  have h := xCopied_ok (fuel := fuel) (outs := outsF fn) (c0 := c0) (c1 := c1) (c2 := c2) (z := z) hmx hng hcall hL hB hnt
  rw [← hs] at h
  exact fun_ok hfn hb h
end
end Hx
