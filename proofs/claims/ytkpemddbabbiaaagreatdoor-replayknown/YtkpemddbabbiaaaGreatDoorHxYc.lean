/- The evaluator: pieces of code put together; pieces that are run over memory that is read alone. -/
import Derived.Test.YtkpemddbabbiaaaGreatDoorHxYb
namespace Hx
open Go

noncomputable section
def seqX (x y : Fr → Hp → XR) : Fr → Hp → XR := fun F h => XR.rec (motive := fun _ => XR) (fun F h => y F h) (fun id F h => .exit id F h) (fun F h => .ret F h) (fun w => .bad w) (x F h)
def blockX (id : Nat) (x : Fr → Hp → XR) : Fr → Hp → XR := fun F h => XR.rec (motive := fun _ => XR) (fun F h => .norm F h) (fun j F h => bif Nat.beq j id then .norm F h else .exit j F h) (fun F h => .ret F h) (fun w => .bad w) (x F h)

/-- some slots of a frame -/
def frL (ts : List Nat) (F : Fr) : Fr := List.rec (motive := fun _ => Fr) .nil (fun t _ ih => match F.get t with | some v => ih.set t v | none => ih) ts
/-- some blocks, that are read alone -/
def roAdd (h : Hp) (j : Nat) (t : Tr Blk) : Tr Blk := match h.t.get j with
  | some (.cells c top _) => t.set j (.cells c top false)
  | some (.map es _) => t.set j (.rmap es)
  | some (.rmap es) => t.set j (.rmap es)
  | _ => t
def roMem (h : Hp) (l : List Nat) : Hp := ⟨List.rec (motive := fun _ => Tr Blk) .nil (fun j _ ih => roAdd h j ih) l, h.next⟩
/-- are these places that both frames have alike? -/
def agree (ts : List Nat) (F F' : Fr) : Bool := List.rec (motive := fun _ => Bool) true (fun t _ ih => (match F.get t, F'.get t with
  | some (.ptr i o), some (.ptr j p) => Nat.beq i j && Nat.beq o p
  | _, _ => false) && ih) ts
/-- a piece that changes nothing: it is run over memory that is read alone -/
def roX (ts : List Nat) (l : List Nat) (x : Fr → Hp → XR) : Fr → Hp → XR := fun F h => match x F (roMem h l) with
  | .norm F' _ => bif agree ts F F' then .norm (frL ts F) h else .bad [8888888]
  | .bad w => .bad (8888887 :: w)
  | _ => .bad [8888889]
end

section
variable {P : Program}

theorem seqX_eq (x y : Fr → Hp → XR) (F : Fr) (h : Hp) : seqX x y F h = (match x F h with | .norm F h => y F h | .exit id F h => .exit id F h | .ret F h => .ret F h | .bad w => .bad w) := by
  unfold seqX
  cases x F h <;> rfl
theorem blockX_eq (id : Nat) (x : Fr → Hp → XR) (F : Fr) (h : Hp) : blockX id x F h = (match x F h with | .norm F h => .norm F h | .exit j F h => (bif Nat.beq j id then .norm F h else .exit j F h) | .ret F h => .ret F h | .bad w => .bad w) := by
  unfold blockX
  cases x F h <;> rfl

theorem seqX_ok {nt outs : Nat} {c d : Code} {x y : Fr → Hp → XR} (ihx : CodeOk P nt outs c x) (ihy : CodeOk P nt outs d y) : CodeOk P nt outs (.seq c d) (seqX x y) := by
  intro F h a w ρ hgood hw hl hg hf hm
  rw [seqX_eq] at hgood ⊢
  refine wp_seq ?_
  cases hx : x F h with
  | bad q => rw [hx] at hgood; exact absurd rfl (hgood q)
  | norm F1 h1 =>
    rw [hx] at hgood
    refine wp_mono (ihx F h a w ρ (by rw [hx]; intro y e; cases e) hw hl hg hf hm) fun e a' w' hd => ?_
    rw [hx] at hd
    obtain ⟨F', h', hor, ρ', he, hf', hm'⟩ := hd
    rcases hor with ⟨q, rfl⟩ | ⟨q, _⟩ | ⟨j, q, _⟩
    · simp only [XR.norm.injEq] at q
      obtain ⟨rfl, rfl⟩ := q
      exact wp_mono (ihy F1 h1 a' w' ρ' hgood he.wr he.lim (hg.ext hl he) hf' hm') fun e a w hd => done_mono hl he hd
    · cases q
    · cases q
  | exit id F1 h1 =>
    refine wp_mono (ihx F h a w ρ (by rw [hx]; intro y e; cases e) hw hl hg hf hm) fun e a' w' hd => ?_
    rw [hx] at hd
    obtain ⟨F', h', hor, rest⟩ := hd
    rcases hor with ⟨q, _⟩ | ⟨q, _⟩ | ⟨j, q, rfl⟩
    · cases q
    · cases q
    · exact ⟨F', h', .inr (.inr ⟨j, q, rfl⟩), rest⟩
  | ret F1 h1 =>
    refine wp_mono (ihx F h a w ρ (by rw [hx]; intro y e; cases e) hw hl hg hf hm) fun e a' w' hd => ?_
    rw [hx] at hd
    obtain ⟨F', h', hor, rest⟩ := hd
    rcases hor with ⟨q, _⟩ | ⟨q, rfl⟩ | ⟨j, q, _⟩
    · cases q
    · exact ⟨F', h', .inr (.inl ⟨q, rfl⟩), rest⟩
    · cases q

theorem blockX_ok {nt outs id : Nat} {c : Code} {x : Fr → Hp → XR} (ih : CodeOk P nt outs c x) : CodeOk P nt outs (.block id c) (blockX id x) := by
  intro F h a w ρ hgood hw hl hg hf hm
  rw [blockX_eq] at hgood ⊢
  refine wp_block ?_
  cases hx : x F h with
  | bad q => rw [hx] at hgood; exact absurd rfl (hgood q)
  | norm F1 h1 =>
    refine wp_mono (ih F h a w ρ (by rw [hx]; intro y e; cases e) hw hl hg hf hm) fun e a' w' hd => ?_
    rw [hx] at hd
    obtain ⟨F', h', hor, rest⟩ := hd
    rcases hor with ⟨q, rfl⟩ | ⟨q, _⟩ | ⟨j, q, _⟩
    · exact ⟨F', h', .inl ⟨q, rfl⟩, rest⟩
    · cases q
    · cases q
  | exit j F1 h1 =>
    refine wp_mono (ih F h a w ρ (by rw [hx]; intro y e; cases e) hw hl hg hf hm) fun e a' w' hd => ?_
    rw [hx] at hd
    obtain ⟨F', h', hor, rest⟩ := hd
    rcases hor with ⟨q, _⟩ | ⟨q, _⟩ | ⟨j', q, rfl⟩
    · cases q
    · cases q
    · simp only [XR.exit.injEq] at q
      obtain ⟨rfl, rfl, rfl⟩ := q
      show (if j = id then Done nt outs (bif Nat.beq j id then XR.norm F1 h1 else XR.exit j F1 h1) ρ h w .normal a' w' else Done nt outs (bif Nat.beq j id then XR.norm F1 h1 else XR.exit j F1 h1) ρ h w (.exit j) a' w')
      rw [beq_nat]
      by_cases hji : j = id
      · rw [if_pos hji]
        simp only [hji, decide_true, cond_true]
        exact ⟨F1, h1, .inl ⟨rfl, rfl⟩, rest⟩
      · rw [if_neg hji]
        simp only [hji, decide_false, cond_false]
        exact ⟨F1, h1, .inr (.inr ⟨j, rfl, rfl⟩), rest⟩
  | ret F1 h1 =>
    refine wp_mono (ih F h a w ρ (by rw [hx]; intro y e; cases e) hw hl hg hf hm) fun e a' w' hd => ?_
    rw [hx] at hd
    obtain ⟨F', h', hor, rest⟩ := hd
    rcases hor with ⟨q, _⟩ | ⟨q, rfl⟩ | ⟨j, q, _⟩
    · cases q
    · exact ⟨F', h', .inr (.inl ⟨q, rfl⟩), rest⟩
    · cases q

theorem frL_get (F : Fr) (t : Nat) : ∀ (ts : List Nat), (frL ts F).get t = if t ∈ ts then F.get t else none
  | [] => by simp only [List.not_mem_nil, if_false]; exact Tr.get_nil _
  | s :: ts => by
    have ih := frL_get F t ts
    have e : frL (s :: ts) F = (match F.get s with | some v => (frL ts F).set s v | none => frL ts F) := rfl
    rw [e]
    by_cases h : t = s
    · subst h
      rw [if_pos (by simp)]
      cases hq : F.get t with
      | some v => simp only; rw [Tr.get_set_same]
      | none => simp only; rw [ih, hq]; split <;> rfl
    · have hm : (t ∈ s :: ts) ↔ t ∈ ts := by simp [h]
      simp only [hm]
      cases hq : F.get s with
      | some v => simp only; rw [Tr.get_set_ne _ _ h, ih]
      | none => simp only; rw [ih]
theorem frL_congr {F G : Fr} : ∀ (ts : List Nat), (∀ t ∈ ts, F.get t = G.get t) → frL ts F = frL ts G
  | [], _ => rfl
  | s :: ts, h => by
    have e1 : frL (s :: ts) F = (match F.get s with | some v => (frL ts F).set s v | none => frL ts F) := rfl
    have e2 : frL (s :: ts) G = (match G.get s with | some v => (frL ts G).set s v | none => frL ts G) := rfl
    rw [e1, e2, h s (by simp), frL_congr ts fun t ht => h t (by simp [ht])]
theorem FR.frL {ρ : Ren} {F : Fr} {a : Act} (hf : FR ρ F [] [] a) (ts : List Nat) : FR ρ (frL ts F) [] [] a := fun t => by
  have h0 := hf t
  rw [co_tmp, findD_nil] at h0 ⊢
  simp only at h0 ⊢
  rw [ev_f, frL_get]
  rw [ev_f] at h0
  by_cases ht : t ∈ ts
  · rw [if_pos ht]; exact h0
  · rw [if_neg ht]; exact .bot _
theorem Fm.frL {nt outs : Nat} {F : Fr} {a : Act} (hm : Fm nt outs F a) (ts : List Nat) : Fm nt outs (frL ts F) a :=
  ⟨fun t v h => by
    rw [frL_get] at h
    by_cases ht : t ∈ ts
    · rw [if_pos ht] at h; exact hm.outs t v h
    · rw [if_neg ht] at h; exact absurd h (by simp), hm.size, hm.defers⟩

theorem roMem_get (h : Hp) (i : Nat) (b : Blk) : ∀ (l : List Nat), (roMem h l).t.get i = some b → i ∈ l ∧ ∃ b', h.t.get i = some b' ∧ SubB b b' ∧ ((∃ t top, b = .cells t top false) ∨ ∃ es, b = .rmap es)
  | [], hq => by cases hq
  | j :: l, hq => by
    have hq : (roAdd h j (roMem h l).t).get i = some b := hq
    unfold roAdd at hq
    have old : (roMem h l).t.get i = some b → i ∈ j :: l ∧ ∃ b', h.t.get i = some b' ∧ SubB b b' ∧ ((∃ t top, b = .cells t top false) ∨ ∃ es, b = .rmap es) := fun q => by
      obtain ⟨g1, g2⟩ := roMem_get h i b l q
      exact ⟨by simp [g1], g2⟩
    by_cases hij : i = j
    · subst hij
      split at hq
      · rename_i c top wr hb
        rw [Tr.get_set_same] at hq
        simp only [Option.some.injEq] at hq; subst hq
        exact ⟨by simp, _, hb, ⟨fun e => (by cases e), Nat.le_refl _, fun _ _ _ h => .inr h⟩, .inl ⟨_, _, rfl⟩⟩
      · rename_i es ver hb
        rw [Tr.get_set_same] at hq
        simp only [Option.some.injEq] at hq; subst hq
        exact ⟨by simp, _, hb, rfl, .inr ⟨_, rfl⟩⟩
      · rename_i es hb
        rw [Tr.get_set_same] at hq
        simp only [Option.some.injEq] at hq; subst hq
        exact ⟨by simp, _, hb, rfl, .inr ⟨_, rfl⟩⟩
      · exact old hq
    · split at hq
      · rw [Tr.get_set_ne _ _ hij] at hq; exact old hq
      · rw [Tr.get_set_ne _ _ hij] at hq; exact old hq
      · rw [Tr.get_set_ne _ _ hij] at hq; exact old hq
      · exact old hq
theorem roMem_sub (h : Hp) (l : List Nat) : Sub (roMem h l) h := ⟨Nat.le_refl _, fun i b hb => by
  obtain ⟨_, b', h1, h2, _⟩ := roMem_get h i b l hb
  exact ⟨b', h1, h2⟩⟩
theorem roMem_own (h : Hp) (l : List Nat) (i : Nat) : ¬ Own (roMem h l) i := fun ⟨b, hb, h1, h2⟩ => by
  obtain ⟨_, _, _, _, q⟩ := roMem_get h i b l hb
  rcases q with ⟨t, top, rfl⟩ | ⟨es, rfl⟩
  · exact h1 _ _ rfl
  · exact h2 _ rfl
theorem roMem_congr {h h' : Hp} (hn : h.next = h'.next) : ∀ (l : List Nat), (∀ j ∈ l, h.t.get j = h'.t.get j) → roMem h l = roMem h' l
  | [], _ => by unfold roMem; rw [hn]
  | j :: l, hj => by
    have ih := roMem_congr hn l fun i hi => hj i (by simp [hi])
    have e1 : roMem h (j :: l) = ⟨roAdd h j (roMem h l).t, h.next⟩ := rfl
    have e2 : roMem h' (j :: l) = ⟨roAdd h' j (roMem h' l).t, h'.next⟩ := rfl
    rw [e1, e2, ih, hn]
    unfold roAdd
    rw [hj j (by simp)]

theorem agree_ok {F F' : Fr} : ∀ (ts : List Nat), agree ts F F' = true → ∀ t ∈ ts, ∃ i o, F.get t = some (.ptr i o) ∧ F'.get t = some (.ptr i o)
  | [], _, t, ht => by cases ht
  | s :: ts, h, t, ht => by
    have h : ((match F.get s, F'.get s with
      | some (.ptr i o), some (.ptr j p) => Nat.beq i j && Nat.beq o p
      | _, _ => false) && agree ts F F') = true := h
    rw [Bool.and_eq_true] at h
    rcases List.mem_cons.1 ht with rfl | ht
    · have h1 := h.1
      split at h1
      · rename_i i o j p e1 e2
        rw [Bool.and_eq_true] at h1
        have a1 := beqN_true h1.1
        have a2 := beqN_true h1.2
        subst a1 a2
        exact ⟨i, o, e1, e2⟩
      · cases h1
    · exact agree_ok ts h.2 t ht

theorem roX_ok {nt outs : Nat} {c : Code} {x : Fr → Hp → XR} (ih : CodeOk P nt outs c x) (ts l : List Nat) : CodeOk P nt outs c (roX ts l x) := by
  intro F h a w ρ hgood hw hl hg hf hm
  unfold roX at hgood ⊢
  have hs := roMem_sub h l
  cases hx : x F (roMem h l) with
  | bad q => rw [hx] at hgood; exact absurd rfl (hgood _)
  | exit j F1 h1 => rw [hx] at hgood; exact absurd rfl (hgood _)
  | ret F1 h1 => rw [hx] at hgood; exact absurd rfl (hgood _)
  | norm F1 h1 =>
    rw [hx] at hgood
    simp only at hgood ⊢
    cases hag : agree ts F F1 with
    | false => rw [hag] at hgood; exact absurd rfl (hgood _)
    | true =>
      simp only [cond_true]
      refine wp_mono (ih F (roMem h l) a w ρ (by rw [hx]; intro y e; cases e) (hw.sub hs) (hl.sub hs) (hg.sub hs) hf hm) fun e a' w' hd => ?_
      rw [hx] at hd
      obtain ⟨F', h', hor, ρ', he, hf', hm'⟩ := hd
      rcases hor with ⟨q, rfl⟩ | ⟨q, _⟩ | ⟨j, q, _⟩
      · simp only [XR.norm.injEq] at q
        obtain ⟨rfl, rfl⟩ := q
        refine ⟨_, _, .inl ⟨rfl, rfl⟩, ρ, Ext.drop hw hl he.hs (fun b hb => he.fr b hb fun i n _ => roMem_own h l i) he.io, fun t => ?_, ⟨(hm.frL ts).outs, hm'.size, hm'.defers⟩⟩
        have g0 := hf t
        have g1 := hf' t
        rw [co_tmp, findD_nil] at g0 g1 ⊢
        simp only at g0 g1 ⊢
        rw [ev_f] at g0 g1 ⊢
        rw [frL_get]
        by_cases ht : t ∈ ts
        · rw [if_pos ht]
          obtain ⟨i, o, e1, e2⟩ := agree_ok ts hag t ht
          rw [e1] at g0 ⊢
          rw [e2] at g1
          simp only at g0 g1 ⊢
          generalize a'.tmps.getD t undef = u at g1 ⊢
          generalize a.tmps.getD t undef = u0 at g0
          cases g0 with
          | ptr _ _ b n hi =>
            have hk := he.kp i b n hi (roMem_own h l i)
            cases g1 with
            | ptr _ _ b' n' hi' =>
              rw [hk] at hi'
              simp only [Slot.live.injEq] at hi'
              obtain ⟨rfl, rfl⟩ := hi'
              exact .ptr _ _ _ _ hi
            | ptrd _ _ q hd => rw [hk] at hd; cases hd
          | ptrd _ _ q hd =>
            have hk := he.le.2 i hd
            cases g1 with
            | ptr _ _ b' n' hi' => rw [hk] at hi'; cases hi'
            | ptrd _ _ q' hd' => exact .ptrd _ _ _ hd
        · rw [if_neg ht]; exact .bot _
      · cases q
      · cases q
end
end Hx
