/- The evaluator: pieces of code put together; pieces that are run over memory that is read alone. -/
import Derived.Test.YtopkkjgjohgogaaGreatDoorHxYb
namespace Hx
open Go

noncomputable section
def seqX (x y : Fr → Hp → XR) : Fr → Hp → XR := fun F h => XR.rec (motive := fun _ => XR) (fun F h => y F h) (fun id F h => .exit id F h) (fun F h => .ret F h) (fun w => .bad w) (x F h)
def blockX (id : Nat) (x : Fr → Hp → XR) : Fr → Hp → XR := fun F h => XR.rec (motive := fun _ => XR) (fun F h => .norm F h) (fun j F h => bif Nat.beq j id then .norm F h else .exit j F h) (fun F h => .ret F h) (fun w => .bad w) (x F h)

/-- some slots of a frame -/
def frL (ts : List Nat) (F : Fr) : Fr := List.rec (motive := fun _ => Fr) .nil (fun t _ ih => match F.get t with | some v => ih.set t v | none => ih) ts
/-- some blocks, that are read alone -/
def roAdd (h : Hp) (j : Nat) (t : Tr Blk) : Tr Blk := match h.t.get j with
  | some (.cells c top _) => t.set j (.cells c top false)
  | some (.map es _) => t.set j (.rmap es)
  | some (.rmap es) => t.set j (.rmap es)
  | _ => t
def roMem (h : Hp) (l : List Nat) : Hp := ⟨List.rec (motive := fun _ => Tr Blk) .nil (fun j _ ih => roAdd h j ih) l, h.next⟩
/-- are these places that both frames have alike? -/
def agree (ts : List Nat) (F F' : Fr) : Bool := List.rec (motive := fun _ => Bool) true (fun t _ ih => (match F.get t, F'.get t with
  | some (.ptr i o), some (.ptr j p) => Nat.beq i j && Nat.beq o p
  | _, _ => false) && ih) ts
/-- a piece that changes nothing: it is run over memory that is read alone -/
def roX (ts : List Nat) (l : List Nat) (x : Fr → Hp → XR) : Fr → Hp → XR := fun F h => match x F (roMem h l) with
  | .norm F' _ => bif agree ts F F' then .norm (frL ts F) h else .bad [8888888]
  | .bad w => .bad (8888887 :: w)
  | _ => .bad [8888889]
end

section
variable {P : Program}

theorem seqX_eq (x y : Fr → Hp → XR) (F : Fr) (h : Hp) : seqX x y F h = (match x F h with | .norm F h => y F h | .exit id F h => .exit id F h | .ret F h => .ret F h | .bad w => .bad w) := by
  unfold seqX
  cases x F h <;> rfl
theorem blockX_eq (id : Nat) (x : Fr → Hp → XR) (F : Fr) (h : Hp) : blockX id x F h = (match x F h with | .norm F h => .norm F h | .exit j F h => (bif Nat.beq j id then .norm F h else .exit j F h) | .ret F h => .ret F h | .bad w => .bad w) := by
  unfold blockX
  cases x F h <;> rfl

theorem seqX_ok {nt outs : Nat} {c d : Code} {x y : Fr → Hp → XR} (ihx : CodeOk P nt outs c x) (ihy : CodeOk P nt outs d y) : CodeOk P nt outs (.seq c d) (seqX x y) := by
  intro F h a w ρ hgood hw hl hg hf hm
  rw [seqX_eq] at hgood ⊢
  refine wp_seq ?_
  cases hx : x F h with
  | bad q => rw [hx] at hgood; exact absurd rfl (hgood q)
  | norm F1 h1 =>
    rw [hx] at hgood
    refine wp_mono (ihx F h a w ρ (by rw [hx]; intro y e; cases e) hw hl hg hf hm) fun e a' w' hd => ?_
    rw [hx] at hd
    obtain ⟨F', h', hor, ρ', he, hf', hm'⟩ := hd
    rcases hor with ⟨q, rfl⟩ | ⟨q, _⟩ | ⟨j, q, _⟩
    · simp only [XR.norm.injEq] at q
      obtain ⟨rfl, rfl⟩ := q
      exact wp_mono (ihy F1 h1 a' w' ρ' hgood he.wr he.lim (hg.ext hl he) hf' hm') fun e a w hd => done_mono hl he hd
    · cases q
    · cases q
  | exit id F1 h1 =>
    refine wp_mono (ihx F h a w ρ (by rw [hx]; intro y e; cases e) hw hl hg hf hm) fun e a' w' hd => ?_
    rw [hx] at hd
    obtain ⟨F', h', hor, rest⟩ := hd
    rcases hor with ⟨q, _⟩ | ⟨q, _⟩ | ⟨j, q, rfl⟩
    · cases q
    · cases q
    · exact ⟨F', h', .inr (.inr ⟨j, q, rfl⟩), rest⟩
  | ret F1 h1 =>
    refine wp_mono (ihx F h a w ρ (by rw [hx]; intro y e; cases e) hw hl hg hf hm) fun e a' w' hd => ?_
    rw [hx] at hd
    obtain ⟨F', h', hor, rest⟩ := hd
    rcases hor with ⟨q, _⟩ | ⟨q, rfl⟩ | ⟨j, q, _⟩
    · cases q
    · exact ⟨F', h', .inr (.inl ⟨q, rfl⟩), rest⟩
    · cases q

theorem blockX_ok {nt outs id : Nat} {c : Code} {x : Fr → Hp → XR} (ih : CodeOk P nt outs c x) : CodeOk P nt outs (.block id c) (blockX id x) := by
  intro F h a w ρ hgood hw hl hg hf hm
  rw [blockX_eq] at hgood ⊢
  refine wp_block ?_
  cases hx : x F h with
  | bad q => rw [hx] at hgood; exact absurd rfl (hgood q)
  | norm F1 h1 =>
    refine wp_mono (ih F h a w ρ (by rw [hx]; intro y e; cases e) hw hl hg hf hm) fun e a' w' hd => ?_
    rw [hx] at hd
    obtain ⟨F', h', hor, rest⟩ := hd
    rcases hor with ⟨q, rfl⟩ | ⟨q, _⟩ | ⟨j, q, _⟩
    · exact ⟨F', h', .inl ⟨q, rfl⟩, rest⟩
    · cases q
    · cases q
  | exit j F1 h1 =>
    refine wp_mono (ih F h a w ρ (by rw [hx]; intro y e; cases e) hw hl hg hf hm) fun e a' w' hd => ?_
    rw [hx] at hd
    obtain ⟨F', h', hor, rest⟩ := hd
    rcases hor with ⟨q, _⟩ | ⟨q, _⟩ | ⟨j', q, rfl⟩
    · cases q
    · cases q
    · simp only [XR.exit.injEq] at q
      obtain ⟨rfl, rfl, rfl⟩ := q
      show (if j = id then Done nt outs (bif Nat.beq j id then XR.norm F1 h1 else XR.exit j F1 h1) ρ h w .normal a' w' else Done nt outs (bif Nat.beq j id then XR.norm F1 h1 else XR.exit j F1 h1) ρ h w (.exit j) a' w')
      rw [beq_nat]
      by_cases hji : j = id
      · rw [if_pos hji]
        simp only [hji, decide_true, cond_true]
        exact ⟨F1, h1, .inl ⟨rfl, rfl⟩, rest⟩
      · rw [if_neg hji]
        simp only [hji, decide_false, cond_false]
        exact ⟨F1, h1, .inr (.inr ⟨j, rfl, rfl⟩), rest⟩
  | ret F1 h1 =>
    refine wp_mono (ih F h a w ρ (by rw [hx]; intro y e; cases e) hw hl hg hf hm) fun e a' w' hd => ?_
    rw [hx] at hd
    obtain ⟨F', h', hor, rest⟩ := hd
    rcases hor with ⟨q, _⟩ | ⟨q, rfl⟩ | ⟨j, q, _⟩
    · cases q
    · exact ⟨F', h', .inr (.inl ⟨q, rfl⟩), rest⟩
    · cases q

theorem frL_get (F : Fr) (t : Nat) : ∀ (ts : List Nat), (frL ts F).get t = if t ∈ ts then F.get t else none
  | [] => by simp only [List.not_mem_nil, if_false]; exact Tr.get_nil _
  | s :: ts => by
    have ih := frL_get F t ts
    have e : frL (s :: ts) F = (match F.get s with | some v => (frL ts F).set s v | none => frL ts F) := rfl
    rw [e]
    by_cases h : t = s
    · subst h
      rw [if_pos (by simp)]
      cases hq : F.get t with
      | some v => simp only; rw [Tr.get_set_same]
      | none => simp only; rw [ih, hq]; split <;> rfl
    · have hm : (t ∈ s :: ts) ↔ t ∈ ts := by simp [h]
      simp only [hm]
      cases hq : F.get s with
      | some v => simp only; rw [Tr.get_set_ne _ _ h, ih]
      | none => simp only; rw [ih]
theorem frL_congr {F G : Fr} : ∀ (ts : List Nat), (∀ t ∈ ts, F.get t = G.get t) → frL ts F = frL ts G
  | [], _ => rfl
  | s :: ts, h => by
    have e1 : frL (s :: ts) F = (match F.get s with | some v => (frL ts F).set s v | none => frL ts F) := rfl
    have e2 : frL (s :: ts) G = (match G.get s with | some v => (frL ts G).set s v | none => frL ts G) := rfl
    rw [e1, e2, h s (by simp), frL_congr ts fun t ht => h t (by simp [ht])]
theorem FR.frL {ρ : Ren} {F : Fr} {a : Act} (hf : FR ρ F [] [] a) (ts : List Nat) : FR ρ (frL ts F) [] [] a := fun t => by
  have h0 := hf t
  rw [co_tmp, findD_nil] at h0 ⊢
  simp only at h0 ⊢
  rw [ev_f, frL_get]
  rw [ev_f] at h0
  by_cases ht : t ∈ ts
  · rw [if_pos ht]; exact h0
  · rw [if_neg ht]; exact .bot _
theorem Fm.frL {nt outs : Nat} {F : Fr} {a : Act} (hm : Fm nt outs F a) (ts : List Nat) : Fm nt outs (frL ts F) a :=
  ⟨fun t v h => by
    rw [frL_get] at h
    by_cases ht : t ∈ ts
    · rw [if_pos ht] at h; exact hm.outs t v h
    · rw [if_neg ht] at h; exact absurd h (by simp), hm.size, hm.defers⟩

theorem roMem_get (h : Hp) (i : Nat) (b : Blk) : ∀ (l : List Nat), (roMem h l).t.get i = some b → i ∈ l ∧ ∃ b', h.t.get i = some b' ∧ SubB b b' ∧ ((∃ t top, b = .cells t top false) ∨ ∃ es, b = .rmap es)
  | [], hq => by cases hq
  | j :: l, hq => by
    have hq : (roAdd h j (roMem h l).t).get i = some b := hq
    unfold roAdd at hq
    have old : (roMem h l).t.get i = some b → i ∈ j :: l ∧ ∃ b', h.t.get i = some b' ∧ SubB b b' ∧ ((∃ t top, b = .cells t top false) ∨ ∃ es, b = .rmap es) := fun q => by
      obtain ⟨g1, g2⟩ := roMem_get h i b l q
      exact ⟨by simp [g1], g2⟩
    by_cases hij : i = j
    · subst hij
      split at hq
      · rename_i c top wr hb
        rw [Tr.get_set_same] at hq
        simp only [Option.some.injEq] at hq; subst hq
        exact ⟨by simp, _, hb, ⟨fun e => (by cases e), Nat.le_refl _, fun _ _ _ h => .inr h⟩, .inl ⟨_, _, rfl⟩⟩
      · rename_i es ver hb
        rw [Tr.get_set_same] at hq
        simp only [Option.some.injEq] at hq; subst hq
        exact ⟨by simp, _, hb, rfl, .inr ⟨_, rfl⟩⟩
      · rename_i es hb
        rw [Tr.get_set_same] at hq
        simp only [Option.some.injEq] at hq; subst hq
        exact ⟨by simp, _, hb, rfl, .inr ⟨_, rfl⟩⟩
      · exact old hq
    · split at hq
      · rw [Tr.get_set_ne _ _ hij] at hq; exact old hq
      · rw [Tr.get_set_ne _ _ hij] at hq; exact old hq
      · rw [Tr.get_set_ne _ _ hij] at hq; exact old hq
      · exact old hq
theorem roMem_sub (h : Hp) (l : List Nat) : Sub (roMem h l) h := ⟨Nat.le_refl _, fun i b hb => by
  obtain ⟨_, b', h1, h2, _⟩ := roMem_get h i b l hb
  exact ⟨b', h1, h2⟩⟩
theorem roMem_own (h : Hp) (l : List Nat) (i : Nat) : ¬ Own (roMem h l) i := fun ⟨b, hb, h1, h2⟩ => by
  obtain ⟨_, _, _, _, q⟩ := roMem_get h i b l hb
  rcases q with ⟨t, top, rfl⟩ | ⟨es, rfl⟩
  · exact h1 _ _ rfl
  · exact h2 _ rfl
theorem roMem_congr {h h' : Hp} (hn : h.next = h'.next) : ∀ (l : List Nat), (∀ j ∈ l, h.t.get j = h'.t.get j) → roMem h l = roMem h' l
  | [], _ => by unfold roMem; rw [hn]
  | j :: l, hj => by
    have ih := roMem_congr hn l fun i hi => hj i (by simp [hi])
    have e1 : roMem h (j :: l) = ⟨roAdd h j (roMem h l).t, h.next⟩ := rfl
    have e2 : roMem h' (j :: l) = ⟨roAdd h' j (roMem h' l).t, h'.next⟩ := rfl
    rw [e1, e2, ih, hn]
    unfold roAdd
    rw [hj j (by simp)]

theorem agree_ok {F F' : Fr} : ∀ (ts : List Nat), agree ts F F' = true → ∀ t ∈ ts, ∃ i o, F.get t = some (.ptr i o) ∧ F'.get t = some (.ptr i o)
  | [], _, t, ht => by cases ht
  | s :: ts, h, t, ht => by
    have h : ((match F.get s, F'.get s with
      | some (.ptr i o), some (.ptr j p) => Nat.beq i j && Nat.beq o p
      | _, _ => false) && agree ts F F') = true := h
    rw [Bool.and_eq_true] at h
    rcases List.mem_cons.1 ht with rfl | ht
    · have h1 := h.1
      split at h1
      · rename_i i o j p e1 e2
        rw [Bool.and_eq_true] at h1
        have a1 := beqN_true h1.1
        have a2 := beqN_true h1.2
        subst a1 a2
        exact ⟨i, o, e1, e2⟩
      · cases h1
    · exact agree_ok ts h.2 t ht

theorem roX_ok {nt outs : Nat} {c : Code} {x : Fr → Hp → XR} (ih : CodeOk P nt outs c x) (ts l : List Nat) : CodeOk P nt outs c (roX ts l x) := by
  intro F h a w ρ hgood hw hl hg hf hm
  unfold roX at hgood ⊢
  have hs := roMem_sub h l
  cases hx : x F (roMem h l) with
  | bad q => rw [hx] at hgood; exact absurd rfl (hgood _)
  | exit j F1 h1 => rw [hx] at hgood; exact absurd rfl (hgood _)
  | ret F1 h1 => rw [hx] at hgood; exact absurd rfl (hgood _)
  | norm F1 h1 =>
    rw [hx] at hgood
    simp only at hgood ⊢
    cases hag : agree ts F F1 with
    | false => rw [hag] at hgood; exact absurd rfl (hgood _)
    | true =>
      simp only [cond_true]
      refine wp_mono (ih F (roMem h l) a w ρ (by rw [hx]; intro y e; cases e) (hw.sub hs) (hl.sub hs) (hg.sub hs) hf hm) fun e a' w' hd => ?_
      rw [hx] at hd
      obtain ⟨F', h', hor, ρ', he, hf', hm'⟩ := hd
      rcases hor with ⟨q, rfl⟩ | ⟨q, _⟩ | ⟨j, q, _⟩
      · simp only [XR.norm.injEq] at q
        obtain ⟨rfl, rfl⟩ := q
        refine ⟨_, _, .inl ⟨rfl, rfl⟩, ρ, Ext.drop hw hl he.hs (fun b hb => he.fr b hb fun i n _ => roMem_own h l i) he.io, fun t => ?_, ⟨(hm.frL ts).outs, hm'.size, hm'.defers⟩⟩
        have g0 := hf t
        have g1 := hf' t
        rw [co_tmp, findD_nil] at g0 g1 ⊢
        simp only at g0 g1 ⊢
        rw [ev_f] at g0 g1 ⊢
        rw [frL_get]
        by_cases ht : t ∈ ts
        · rw [if_pos ht]
          obtain ⟨i, o, e1, e2⟩ := agree_ok ts hag t ht
          rw [e1] at g0 ⊢
          rw [e2] at g1
          simp only at g0 g1 ⊢
          generalize a'.tmps.getD t undef = u at g1 ⊢
          generalize a.tmps.getD t undef = u0 at g0
          cases g0 with
          | ptr _ _ b n hi =>
            have hk := he.kp i b n hi (roMem_own h l i)
            cases g1 with
            | ptr _ _ b' n' hi' =>
              rw [hk] at hi'
              simp only [Slot.live.injEq] at hi'
              obtain ⟨rfl, rfl⟩ := hi'
              exact .ptr _ _ _ _ hi
            | ptrd _ _ q hd => rw [hk] at hd; cases hd
          | ptrd _ _ q hd =>
            have hk := he.le.2 i hd
            cases g1 with
            | ptr _ _ b' n' hi' => rw [hk] at hi'; cases hi'
            | ptrd _ _ q' hd' => exact .ptrd _ _ _ hd
        · rw [if_neg ht]; exact .bot _
      · cases q
      · cases q
end
end Hx

/- The evaluator: a loop over a map whose rounds change nothing. -/
namespace Hx
open Go

noncomputable section
/-- the frame behind 'entry', 'extract 0', 'assign' -/
def entF (outs tn tk tv : Nat) (k v : AV) (F : Fr) : Fr := keepF [k, k, .tup [k, v]] (keepL outs [some tv, some tk, some tn] 0) F
def allE (p : AV × AV → Bool) (l : List (AV × AV)) : Bool := List.rec (motive := fun _ => Bool) true (fun x _ ih => p x && ih) l
def isNormal (r : XR) : Bool := XR.rec (motive := fun _ => Bool) (fun _ _ => true) (fun _ _ _ => false) (fun _ _ => false) (fun _ => false) r
def hasN (l : List Nat) (i : Nat) : Bool := List.rec (motive := fun _ => Bool) false (fun j _ ih => Nat.beq j i || ih) l

/-- numbers of blocks that a value leads to -/
def refs1 (v : AV) : List Nat := match v with
  | .ptr i _ => [i]
  | .sl i _ _ _ _ => [i]
  | .map i => [i]
  | _ => []
def refsL (l : List AV) : List Nat := List.rec (motive := fun _ => List Nat) [] (fun v _ ih => refs1 v ++ ih) l
def refs2 (v : AV) : List Nat := match v with
  | .agg l => refsL l
  | v => refs1 v
def refsE (l : List (AV × AV)) : List Nat := List.rec (motive := fun _ => List Nat) [] (fun e _ ih => refs2 e.2 ++ ih) l
def refsB (b : Option Blk) : List Nat := match b with
  | some (.cells t top _) => (match getCells t top 0 with | some l => refsL l | none => [])
  | some (.map es _) => refsE es
  | some (.rmap es) => refsE es
  | _ => []
/-- what is reached (by so many steps at most) -/
def reach (h : Hp) (fuel : Nat) : List Nat → List Nat → List Nat :=
  Nat.rec (motive := fun _ => List Nat → List Nat → List Nat) (fun _ acc => acc)
    (fun _ ih todo acc => match todo with
      | [] => acc
      | i :: todo => bif hasN acc i then ih todo acc else ih (refsB (h.t.get i) ++ todo) (i :: acc)) fuel

/-- a loop over a map, round by round over memory that is read alone: it and tn, tk, tv: the slots of the iterator, of the entry, of its key (twice); ts: slots that stay (places); rest: a round behind that -/
def anyU (outs it tn tk tv : Nat) (ts : List Nat) (root : Nat) (rest : Fr → Hp → XR) (dflt : Fr → Hp → XR) : Fr → Hp → XR := fun F h => match F.get it, F.get root with
  | some (.ptr i 0), some (.ptr q _) => match h.t.get i with
    | some (.miter (some (r, n)) left none) => match h.t.get r with
      | some (.map es n') => bif Nat.ble (lenN es) 1 then dflt F h else
          (fun idx => bif Nat.beq n n' && hasN ts it && !(hasN ts tn) && !(hasN ts tk) && !(hasN ts tv) && !(hasN idx i) && allE (fun x => isNormal (roX ts idx rest (entF outs tn tk tv x.1 x.2 (frL ts F)) h)) left then .norm (frL ts F) (h.put i .gone) else .bad [7777777]) (reach h 1000 [q] [])
      | _ => .bad [7777776]
    | _ => .bad [7777775]
  | _, _ => .bad [7777774]
end

section
variable {P : Program}

theorem hasN_iff (l : List Nat) (i : Nat) : hasN l i = true ↔ i ∈ l := by
  induction l with
  | nil => simp [hasN]
  | cons j l ih =>
    have e : hasN (j :: l) i = (Nat.beq j i || hasN l i) := rfl
    rw [e, Bool.or_eq_true, ih, beq_nat]
    simp [eq_comm]

theorem allE_ok {p : AV × AV → Bool} : ∀ {l : List (AV × AV)}, allE p l = true → ∀ x ∈ l, p x = true
  | [], _, x, hx => by cases hx
  | y :: l, h, x, hx => by
    have h : (p y && allE p l) = true := h
    rw [Bool.and_eq_true] at h
    rcases List.mem_cons.1 hx with rfl | hx
    · exact h.1
    · exact allE_ok h.2 x hx

/-- how a round begins -/
def EntryShape (c : Code) (it tn tk tv : Nat) : Prop := ∃ rid ops o1 o2 o3, c = .region rid ops false ∧ ops.toList = [o1, o2, o3] ∧ o1.op = .entry (.tmp it) ∧ o1.dst = some tn ∧ o1.guard = none ∧ o2.op = .extract (.tmp tn) 0 ∧ o2.dst = some tk ∧ o2.guard = none ∧ o3.op = .assign (.tmp tk) ∧ o3.dst = some tv ∧ o3.guard = none

theorem opX_p (call : CallT) (o : POp) (F : Fr) (L : List AV) (h : Hp) (k : KT) {v : AV} (hv : popX o F L = some v) : opX P call (.p o) F L h k = k v h := by
  show Option.rec (motive := fun _ => OR) (.bad []) (fun v => k v h) (popX o F L) = _
  rw [hv]
theorem opX_l (call : CallT) (o : LOp) (F : Fr) (L : List AV) (h : Hp) (k : KT) {v : AV} (hv : lopX o F L h = some v) : opX P call (.l o) F L h k = k v h := by
  show Option.rec (motive := fun _ => OR) (.bad []) (fun v => k v h) (lopX o F L h) = _
  rw [hv]
theorem opsX_one (call : CallT) (op : XOp) (l : List XOper) (F : Fr) (L : List AV) (h : Hp) : opsX P call (⟨op, none⟩ :: l) F L h = opX P call op F L h (fun v h => opsX P call l F (v :: L) h) := rfl

/-- a block is given up -/
theorem Ext.gone {ρ ρ' : Ren} {h h' k : Hp} {w w' : World} {i : Nat} {b : Blk} (e : Ext ρ ρ' h h' w w') (hn : k.next = h'.next) (hj : ∀ j, j ≠ i → k.t.get j = h'.t.get j) (hi : k.t.get i = some .gone ∨ k.t.get i = none) (hb : h'.t.get i = some b) (b1 : ∀ t top, b ≠ .cells t top false) (b2 : ∀ es, b ≠ .rmap es) (b3 : ∀ es n, b ≠ .map es n) : Ext ρ ρ' h k w w' where
  wr :=
    { bd := e.wr.bd
      inj := e.wr.inj
      blk := fun j c n q hq hk => by
        by_cases hji : j = i
        · subst hji
          rcases hi with hi | hi <;> rw [hi] at hk
          · simp only [Option.some.injEq] at hk; subst hk
            obtain ⟨o, g1, _⟩ := e.wr.blk j c n b hq hb
            exact ⟨o, g1, trivial⟩
          · cases hk
        · rw [hj j hji] at hk
          obtain ⟨o, g1, g2⟩ := e.wr.blk j c n q hq hk
          refine ⟨o, g1, g2.keep (Ren.le_refl _) fun r d m es ver hr hes => ⟨hr, .inl ⟨?_, Eq.refl _⟩⟩⟩
          have hri : r ≠ i := fun x => by rw [x, hb] at hes; simp only [Option.some.injEq] at hes; exact b3 _ _ hes
          rw [hj r hri]; exact hes
      dead := fun j q hq hk => by
        by_cases hji : j = i
        · subst hji
          rcases hi with hi | hi <;> rw [hi] at hk
          · simpa using hk.symm
          · cases hk
        · rw [hj j hji] at hk
          exact e.wr.dead j q hq hk
      fresh := fun j hq => by
        rw [hn] at hq
        have hji : j ≠ i := fun x => by rw [x] at hq; rw [e.wr.fresh i hq] at hb; cases hb
        rw [hj j hji]
        exact e.wr.fresh j hq
      all := fun j q hk => by
        by_cases hji : j = i
        · rw [hji]; exact e.wr.all i b hb
        · rw [hj j hji] at hk
          exact e.wr.all j q hk }
  lim := fun j hq => e.lim j (by rw [← hn]; exact hq)
  le := e.le
  hn := by rw [hn]; exact e.hn
  hs := e.hs
  nw := e.nw
  fr := e.fr
  ow := fun j hjl ho => e.ow j hjl (by
    by_cases hji : j = i
    · subst hji; exact ⟨b, hb, b1, b2⟩
    · obtain ⟨q, g1, g2⟩ := ho
      rw [hj j hji] at g1
      exact ⟨q, g1, g2⟩)
  kp := e.kp
  io := e.io

theorem entry_region {nt outs : Nat} {call : CallT} {fuel it tn tk tv i r n : Nat} {c : Code} {F : Fr} {h : Hp} {left es : List (AV × AV)} {k v : AV} (hc : EntryShape c it tn tk tv) (h1 : tn < nt) (h2 : tk < nt) (h3 : tv < nt)
    (hF : F.get it = some (.ptr i 0)) (hi : h.t.get i = some (.miter (some (r, n)) left (some (k, v)))) (hr : h.t.get r = some (.map es n)) :
    codeX P nt outs call fuel c F h = .norm (entF outs tn tk tv k v F) h := by
  obtain ⟨rid, ops, ⟨d1, op1, ty1, pos1, af1, g1⟩, ⟨d2, op2, ty2, pos2, af2, g2⟩, ⟨d3, op3, ty3, pos3, af3, g3⟩, rfl, hops, q1, q2, q3, q4, q5, q6, q7, q8, q9⟩ := hc
  simp only at q1 q2 q3 q4 q5 q6 q7 q8 q9
  subst q1 q2 q3 q4 q5 q6 q7 q8 q9
  rw [codeX_region, hops]
  have hent : entV (ev F [] (.f it)) h = some (.tup [k, v]) := by
    rw [ev_f, hF]
    unfold entV
    simp only [hi, hr]
    have : Nat.beq n n = true := by simp
    simp only [this, cond_true]
  have b1 : Nat.blt tn nt = true := by rw [blt_nat]; simpa using h1
  have b2 : Nat.blt tk nt = true := by rw [blt_nat]; simpa using h2
  have b3 : Nat.blt tv nt = true := by rw [blt_nat]; simpa using h3
  show OR.rec (motive := fun _ => XR) (fun L h => .norm (keepF L (keepL outs [some tv, some tk, some tn] 0) F) h) (fun w => .bad (rid :: w)) (opsX P call (compOps P nt _ _ []) F [] h) = _
  have e : opsX P call (compOps P nt [⟨some tn, .entry (.tmp it), ty1, pos1, af1, none⟩, ⟨some tk, .extract (.tmp tn) 0, ty2, pos2, af2, none⟩, ⟨some tv, .assign (.tmp tk), ty3, pos3, af3, none⟩] [⟨some tn, .entry (.tmp it), ty1, pos1, af1, none⟩, ⟨some tk, .extract (.tmp tn) 0, ty2, pos2, af2, none⟩, ⟨some tv, .assign (.tmp tk), ty3, pos3, af3, none⟩] []) F [] h = .ok [k, k, .tup [k, v]] h := by
    rw [compOps_cons, compOps_cons, compOps_cons]
    simp only [b1, b2, b3, cond_true]
    have c0 : compOp P [] ⟨some tn, .entry (.tmp it), ty1, pos1, af1, none⟩ = .l (.ent (.f it)) := rfl
    have c1 : compOp P [some tn] ⟨some tk, .extract (.tmp tn) 0, ty2, pos2, af2, none⟩ = .p (.ext 0 (.l 0)) := by
      show XOp.p (.ext 0 (co [some tn] (.tmp tn))) = _
      rw [co_tmp, findD_some, if_pos rfl]
    have c2 : compOp P [some tk, some tn] ⟨some tv, .assign (.tmp tk), ty3, pos3, af3, none⟩ = .p (.mov (.l 0)) := by
      show XOp.p (.mov (co [some tk, some tn] (.tmp tk))) = _
      rw [co_tmp, findD_some, if_pos rfl]
    rw [c0, c1, c2]
    show opsX P call [⟨.l (.ent (.f it)), none⟩, ⟨.p (.ext 0 (.l 0)), none⟩, ⟨.p (.mov (.l 0)), none⟩] F [] h = _
    rw [opsX_one, opX_l call (.ent (.f it)) F [] h _ (v := .tup [k, v]) hent, opsX_one, opX_p call _ F _ h _ (v := k) rfl, opsX_one, opX_p call _ F _ h _ (v := k) rfl]
    rfl
  rw [e]
  rfl

theorem entF_get {outs tn tk tv t : Nat} {k v : AV} {F : Fr} (h1 : t ≠ tn) (h2 : t ≠ tk) (h3 : t ≠ tv) : (entF outs tn tk tv k v F).get t = F.get t := by
  unfold entF
  rw [keep_get]
  have : findD [some tv, some tk, some tn] t = none := by
    rw [findD_some, if_neg (Ne.symm h3), findD_some, if_neg (Ne.symm h2), findD_some, if_neg (Ne.symm h1), findD_nil]; rfl
  rw [this]

theorem anyU_ok {nt outs fuel it tn tc te tk tv id id1 root : Nat} {ts : List Nat} {call : CallT} {c R Rest : Code} {rest dflt : Fr → Hp → XR} (hmx : P.follows .mixedOrders = true) (hng : NoNG P) (hcall : CallOk P call)
    (hshape : RangeShape c it tn tc id (.block id1 (.seq R Rest))) (hent : EntryShape R it te tk tv) (hn : tn < nt) (hn' : tc < nt) (hne : tn ≠ tc) (h1 : te < nt) (h2 : tk < nt) (h3 : tv < nt) (hts : tn ∉ ts ∧ tc ∉ ts)
    (hrest : CodeOk P nt outs Rest rest) (hd : CodeOk P nt outs (.block id (.loop c)) dflt) : CodeOk P nt outs (.block id (.loop c)) (anyU outs it te tk tv ts root rest dflt) := by
  intro F h a w ρ hgood hw hl hg hf hm
  unfold anyU at hgood ⊢
  split at hgood
  · rename_i i q oq hit hroot
    split at hgood
    · rename_i r n left hi
      split at hgood
      · rename_i es n' hr
        simp only
        cases hle : Nat.ble (lenN es) 1 with
        | true =>
          rw [hle] at hgood
          simp only [cond_true] at hgood ⊢
          exact hd F h a w ρ hgood hw hl hg hf hm
        | false =>
          rw [hle] at hgood
          simp only [cond_false] at hgood ⊢
          generalize hidx : reach h 1000 [q] [] = idx at hgood ⊢
          cases hb : (Nat.beq n n' && hasN ts it && !(hasN ts te) && !(hasN ts tk) && !(hasN ts tv) && !(hasN idx i) && allE (fun x => isNormal (roX ts idx rest (entF outs te tk tv x.1 x.2 (frL ts F)) h)) left) with
          | false => rw [hb] at hgood; exact absurd rfl (hgood _)
          | true =>
            simp only [cond_true]
            simp only [Bool.and_eq_true, Bool.not_eq_true'] at hb
            obtain ⟨⟨⟨⟨⟨⟨b1, b2⟩, b3⟩, b4⟩, b5⟩, b6⟩, b7⟩ := hb
            have hnn := beqN_true b1
            subst hnn
            rw [hasN_iff] at b2
            have not : ∀ {l : List Nat} {i : Nat}, hasN l i = false → i ∉ l := fun {l i} h q => by rw [(hasN_iff l i).2 q] at h; cases h
            have b3 := not b3
            have b4 := not b4
            have b5 := not b5
            have b6 := not b6
            have h2' : 2 ≤ es.length := by
              rw [ble_nat, lenN_eq] at hle
              simp at hle; omega
            have hri : r ≠ i := fun e => by rw [e, hi] at hr; cases hr
            generalize hFc : frL ts F = Fc at b7 ⊢
            have hFcget : ∀ t, Fc.get t = if t ∈ ts then F.get t else none := fun t => by rw [← hFc, frL_get]
            have hfc : FR ρ Fc [] [] a := by rw [← hFc]; exact hf.frL ts
            have hmc : Fm nt outs Fc a := by rw [← hFc]; exact hm.frL ts
            let J : List (AV × AV) → Fr → Hp → Prop := fun l F' h' => F' = Fc ∧ (∀ x ∈ l, x ∈ left) ∧ h'.next = h.next ∧ (∀ j, j ≠ i → h'.t.get j = h.t.get j) ∧ ∃ cur, h'.t.get i = some (.miter (some (r, n)) l cur)
            have hBody : CodeOk P nt outs (.block id1 (.seq R Rest)) (blockX id1 (seqX (codeX P nt outs call fuel R) (roX ts idx rest))) := blockX_ok (seqX_ok (code_ok hmx hcall hng R) (roX_ok hrest ts idx))
            refine wp_block (wp_loop_rounds _ (rounds_mono ?_ _ _ _ (loop_any (outs := outs) (i := i) (r := r) (n := n) (es := es) hshape hn hn' hne h2' J ?_ ?_ left.length left Fc h a w ρ rfl ⟨rfl, fun _ h => h, rfl, fun _ _ => rfl, none, hi⟩ hw hl hg hfc hmc)))
            · rintro e a' w' ⟨rfl, F', h', ρ', ⟨rfl, _, j2, j3, cur, j4⟩, hE, hf', hm'⟩
              show (if id = id then Done nt outs _ ρ h w .normal a' w' else _)
              rw [if_pos rfl]
              refine ⟨_, _, .inl ⟨rfl, rfl⟩, ρ', hE.gone (i := i) (b := .miter (some (r, n)) [] cur) ?_ (fun j hji => ?_) (.inl (put_get_same _ _ _)) j4 (fun _ _ e => (by cases e)) (fun _ e => (by cases e)) (fun _ _ e => (by cases e)), hf', hm'⟩
              · show h.next = h'.next
                exact j2.symm
              · rw [put_get_ne h _ hji, j3 j hji]
            · rintro l F' h' ⟨rfl, _, j2, j3, cur, j4⟩
              refine ⟨by rw [hFcget, if_pos b2]; exact hit, by rw [hFcget, if_neg hts.1], by rw [hFcget, if_neg hts.2], ⟨cur, j4⟩, by rw [j3 r hri]; exact hr⟩
            · rintro l ⟨k, v⟩ l' F' h' ⟨rfl, j1, j2, j3, cur, j4⟩ hp a' w' ρ' hw' hl' hg' hf' hm'
              generalize hh1 : h'.put i (.miter (some (r, n)) l' (some (k, v))) = hx at hw' hl' hg' ⊢
              have g1 : hx.t.get i = some (.miter (some (r, n)) l' (some (k, v))) := by rw [← hh1]; exact put_get_same _ _ _
              have g2 : ∀ j, j ≠ i → hx.t.get j = h.t.get j := fun j hj => by rw [← hh1, put_get_ne _ _ hj, j3 j hj]
              have g3 : hx.next = h.next := by rw [← hh1]; exact j2
              have hmem : (k, v) ∈ left := j1 _ (hp.mem_iff.2 (by simp))
              have e1 : codeX P nt outs call fuel R F' hx = .norm (entF outs te tk tv k v F') hx := entry_region hent h1 h2 h3 (by rw [hFcget, if_pos b2]; exact hit) g1 (by rw [g2 r hri]; exact hr)
              have e2 : roMem hx idx = roMem h idx := roMem_congr g3 idx fun j hj => g2 j fun e => b6 (e ▸ hj)
              have e3 := allE_ok b7 _ hmem
              simp only at e3
              have e4 : ∃ F2, roX ts idx rest (entF outs te tk tv k v F') hx = .norm F2 hx ∧ F2 = F' := by
                unfold roX at e3 ⊢
                rw [e2]
                cases hq : rest (entF outs te tk tv k v F') (roMem h idx) with
                | norm F2 h2 =>
                  rw [hq] at e3
                  simp only at e3 ⊢
                  cases hag : agree ts (entF outs te tk tv k v F') F2 with
                  | false => rw [hag] at e3; cases e3
                  | true =>
                    refine ⟨_, rfl, ?_⟩
                    rw [← hFc]
                    exact frL_congr ts fun t ht => by rw [entF_get (t := t) (by rintro rfl; exact b3 ht) (by rintro rfl; exact b4 ht) (by rintro rfl; exact b5 ht), frL_get, if_pos ht]
                | _ => rw [hq] at e3; cases e3
              obtain ⟨F2, e4, rfl⟩ := e4
              have e5 : blockX id1 (seqX (codeX P nt outs call fuel R) (roX ts idx rest)) F2 hx = .norm F2 hx := by
                rw [blockX_eq, seqX_eq, e1]
                simp only
                rw [e4]
              refine wp_mono (hBody F2 hx a' w' ρ' (by rw [e5]; intro y e; cases e) hw' hl' hg' hf' hm') fun e a2 w2 hd => ?_
              rw [e5] at hd
              obtain ⟨F3, h3', hor, ρ2, k1, k2, k3⟩ := hd
              rcases hor with ⟨q, rfl⟩ | ⟨q, _⟩ | ⟨_, q, _⟩
              · simp only [XR.norm.injEq] at q
                obtain ⟨rfl, rfl⟩ := q
                exact ⟨rfl, F2, hx, ρ2, ⟨rfl, fun x hxm => j1 x (hp.mem_iff.2 (by simp [hxm])), g3, g2, _, g1⟩, k1, k2, k3⟩
              · cases q
              · cases q
      · exact absurd rfl (hgood _)
    · exact absurd rfl (hgood _)
  · exact absurd rfl (hgood _)
end
end Hx
