/- The evaluator: regions that draw their order: whatever the order, it comes to the same. -/
import Derived.Test.YtopkkjgjohgogaaGreatDoorHxR
namespace Hx
open Go

section
variable {P : Program}

structure Plan (P : Program) (call : CallT) (nt : Nat) (ops : Array Oper) (F : Fr) (r : Nat → Nat) (v : Nat → AV) (H : Nat → Hp) : Prop where
  step : ∀ i, i < ops.size → Step P call F (xsN (P := P) nt ops i) v H i
  reach : ∀ j, j < ops.size → reachOf (Lv r j) j (opN ops j).after.toList = some (r j)
  pair : ∀ i j, i < j → j < ops.size → pairOk i (plN ops (xsN (P := P) nt ops) r i) (plN ops (xsN (P := P) nt ops) r j) = true
  gap : ∀ i, i < ops.size → ∀ lo, (xsN (P := P) nt ops i).op = .l lo → wantedX (xsN (P := P) nt ops i).guard F (Lv v i) = some true → ∀ m, m ≤ ops.size → (m = 0 ∨ isE (xsN (P := P) nt ops (m - 1)) = true) →
    cnt (fun k => isE (xsN (P := P) nt ops k) && Nat.testBit (r i) k) ops.size ≤ cnt (fun k => isE (xsN (P := P) nt ops k)) m →
    cnt (fun k => isE (xsN (P := P) nt ops k)) m ≤ cnt (fun k => isE (xsN (P := P) nt ops k) && !(Nat.testBit (r k) i)) ops.size → lopX lo F (Lv v i) (H m) = some (v i)

def readsN (ops : Array Oper) (i : Nat) : List Nat := guardT ops.toList (opN ops i) ++ (opN ops i).op.operands.toList.flatMap opnd

def Lst (s : Array Bool) (j : Nat) : Prop := s[j]? = some true

section plan
variable {call : CallT} {nt : Nat} {ops : Array Oper} {F : Fr} {r : Nat → Nat} {v : Nat → AV} {H : Nat → Hp}

theorem Plan.pairs (hp : Plan P call nt ops F r v H) {i j : Nat} (hij : i < j) (hj : j < ops.size) :
    (∀ d, (opN ops i).dst = some d → (opN ops j).dst ≠ some d) ∧ (Nat.testBit (r j) i = true ∨
      ((∀ d, (opN ops i).dst = some d → d ∉ readsN ops j) ∧ (∀ d, (opN ops j).dst = some d → d ∉ readsN ops i) ∧
        ¬ (isE (xsN (P := P) nt ops j) = true ∧ (isE (xsN (P := P) nt ops i) = true ∨ cls (xsN (P := P) nt ops i).op = 2)))) := by
  have h := hp.pair i j hij hj
  unfold pairOk plN at h
  simp only [Bool.and_eq_true, Bool.or_eq_true] at h
  obtain ⟨h1, h2⟩ := h
  refine ⟨fun d hd hd' => ?_, ?_⟩
  · rw [hd, hd'] at h1
    simp at h1
  · rcases h2 with h2 | ⟨⟨h2, h3⟩, h4⟩
    · exact .inl h2
    · refine .inr ⟨fun d hd hm => ?_, fun d hd hm => ?_, fun ⟨q1, q2⟩ => ?_⟩
      · rw [hd] at h2
        have : (readsN ops j).contains d = true := by simpa using hm
        simp only [Bool.not_eq_true'] at h2
        unfold readsN at this
        rw [this] at h2; cases h2
      · rw [hd] at h3
        have : (readsN ops i).contains d = true := by simpa using hm
        simp only [Bool.not_eq_true'] at h3
        unfold readsN at this
        rw [this] at h3; cases h3
      · unfold isE at q1 q2
        rw [q1] at h4
        rcases q2 with q2 | q2
        · rw [q2] at h4; simp at h4
        · rw [q2] at h4; simp [beq_nat] at h4

theorem Plan.distinct (hp : Plan P call nt ops F r v H) {i j : Nat} (hij : i ≠ j) (hi : i < ops.size) (hj : j < ops.size) {d : Nat} (h : (opN ops i).dst = some d) : (opN ops j).dst ≠ some d := by
  rcases Nat.lt_or_gt_of_ne hij with g | g
  · exact (hp.pairs g hj).1 d h
  · intro e
    exact (hp.pairs g hi).1 d e h

theorem Plan.next_le (hp : Plan P call nt ops F r v H) {i : Nat} (hi : i < ops.size) : (H i).next ≤ (H (i + 1)).next := by
  rcases hp.step i hi with ⟨_, _, h⟩ | ⟨_, _, h, _⟩
  · rw [h]; exact Nat.le_refl _
  · exact h
theorem Plan.next_mono (hp : Plan P call nt ops F r v H) {i j : Nat} (hij : i ≤ j) (hj : j ≤ ops.size) : (H i).next ≤ (H j).next := by
  induction j with
  | zero => rw [Nat.le_zero.1 hij]; exact Nat.le_refl _
  | succ j ih =>
    by_cases h : i = j + 1
    · rw [h]; exact Nat.le_refl _
    · exact Nat.le_trans (ih (by omega) (by omega)) (hp.next_le (by omega))

theorem Plan.low (hp : Plan P call nt ops F r v H) {i : Nat} (hi : i < ops.size) : lowA (H (i + 1)).next (v i) = true := by
  rcases hp.step i hi with ⟨_, h, _⟩ | ⟨_, _, _, h⟩
  · rw [h]; rfl
  · exact h

theorem findD_dsv (ops : Array Oper) (t : Nat) : ∀ (i : Nat), (∃ k, findD (dsv ops i) t = some k ∧ k < i ∧ (opN ops (i - 1 - k)).dst = some t) ∨ (findD (dsv ops i) t = none ∧ ∀ j, j < i → (opN ops j).dst ≠ some t)
  | 0 => .inr ⟨rfl, fun j hj => by omega⟩
  | i + 1 => by
    have ih := findD_dsv ops t i
    have e : dsv ops (i + 1) = (opN ops i).dst :: dsv ops i := rfl
    rw [e]
    cases hd : (opN ops i).dst with
    | none =>
      rw [findD_none]
      rcases ih with ⟨k, h1, h2, h3⟩ | ⟨h1, h2⟩
      · exact .inl ⟨k + 1, by rw [h1]; rfl, by omega, by rw [show i + 1 - 1 - (k + 1) = i - 1 - k by omega]; exact h3⟩
      · refine .inr ⟨by rw [h1]; rfl, fun j hj => ?_⟩
        by_cases hji : j = i
        · rw [hji, hd]; simp
        · exact h2 j (by omega)
    | some d =>
      rw [findD_some]
      by_cases hdt : d = t
      · subst hdt
        exact .inl ⟨0, by rw [if_pos rfl], by omega, by simpa using hd⟩
      · rw [if_neg hdt]
        rcases ih with ⟨k, h1, h2, h3⟩ | ⟨h1, h2⟩
        · exact .inl ⟨k + 1, by rw [h1]; rfl, by omega, by rw [show i + 1 - 1 - (k + 1) = i - 1 - k by omega]; exact h3⟩
        · refine .inr ⟨by rw [h1]; rfl, fun j hj => ?_⟩
          by_cases hji : j = i
          · rw [hji, hd]; simpa using hdt
          · exact h2 j (by omega)

/-- a make that was run ahead of its turn -/
def MadeAt (H : Nat → Hp) (ws : World) (σ : Ren) (w : World) (j : Nat) : Prop :=
  ∃ b n obj B, σ (H j).next = .live b n ∧ ws.heap.size ≤ b ∧ w.heap[b]? = some obj ∧ H (j + 1) = (H j).new B ∧ ∀ ρ' h' w'', (σ.cut (H j).next).le ρ' → BR ρ' h' w'' n B obj

structure Inv (P : Program) (nt : Nat) (ops : Array Oper) (F : Fr) (r : Nat → Nat) (v : Nat → AV) (H : Nat → Hp) (ρs : Ren) (ws : World) (s : Array Bool) (m : Nat) (σ : Ren) (a : Act) (w : World) : Prop where
  size : s.size = ops.size
  clos : ∀ j, j < ops.size → Lst s j → ∀ k, Nat.testBit (r j) k = true → Lst s k
  mle : m ≤ ops.size
  mact : m = 0 ∨ isE (xsN (P := P) nt ops (m - 1)) = true
  acts : ∀ j, j < ops.size → isE (xsN (P := P) nt ops j) = true → (Lst s j ↔ j < m)
  ext : Ext ρs (σ.cut (H m).next) (H 0) (H m) ws w
  made : ∀ j, m ≤ j → j < ops.size → Lst s j → H (j + 1) = H j ∨ MadeAt H ws σ w j
  pend : ∀ k, (H m).next ≤ k → σ k = .no ∨ ∃ j, m ≤ j ∧ j < ops.size ∧ Lst s j ∧ k = (H j).next ∧ MadeAt H ws σ w j
  inj : ∀ i j b n n', σ i = .live b n → σ j = .live b n' → i = j
  bd : ∀ i b n, σ i = .live b n → b < w.heap.size
  vals : ∀ j, j < ops.size → Lst s j → ∀ d, (opN ops j).dst = some d → VR σ (v j) (a.tmps.getD d undef)
  slots : ∀ t, (∀ j, j < ops.size → Lst s j → (opN ops j).dst ≠ some t) → VR (σ.cut (H m).next) (ev F [] (.f t)) (a.tmps.getD t undef)
  tsz : nt ≤ a.tmps.size
  dfr : a.defers = []

theorem Lst_set {s : Array Bool} {i : Nat} (hi : i < s.size) (j : Nat) : Lst (s.setIfInBounds i true) j ↔ Lst s j ∨ j = i := by
  unfold Lst
  rw [Array.getElem?_setIfInBounds]
  by_cases h : i = j
  · subst h
    simp [hi]
  · rw [if_neg h]
    constructor
    · exact .inl
    · rintro (g | g)
      · exact g
      · exact absurd g.symm h

theorem cut_le (σ : Ren) {n n' : Nat} (h : n ≤ n') : (σ.cut n).le (σ.cut n') := by
  constructor
  · intro i b k hi
    unfold Ren.cut at hi ⊢
    split at hi
    · rw [if_pos (by omega)]; exact .inl hi
    · cases hi
  · intro i hi
    unfold Ren.cut at hi ⊢
    split at hi
    · rw [if_pos (by omega)]; exact hi
    · cases hi
theorem cut_le_self (σ : Ren) (n : Nat) : (σ.cut n).le σ := by
  constructor
  · intro i b k hi
    unfold Ren.cut at hi
    split at hi
    · exact .inl hi
    · cases hi
  · intro i hi
    unfold Ren.cut at hi
    split at hi
    · exact hi
    · cases hi
theorem cut_mono {σ σ' : Ren} (h : σ.le σ') (n : Nat) : (σ.cut n).le (σ'.cut n) := by
  constructor
  · intro i b k hi
    unfold Ren.cut at hi ⊢
    split at hi
    · rename_i hlt; rw [if_pos hlt]; exact h.1 i b k hi
    · cases hi
  · intro i hi
    unfold Ren.cut at hi ⊢
    split at hi
    · rename_i hlt; rw [if_pos hlt]; exact h.2 i hi
    · cases hi

variable {ρs : Ren} {ws : World} {s : Array Bool} {m : Nat} {σ : Ren} {a : Act} {w : World}

theorem Inv.next (hp : Plan P call nt ops F r v H) (hI : Inv P nt ops F r v H ρs ws s m σ a w) {i : Nat} (hi : i < ops.size) (hcl : ∀ k, Nat.testBit (r i) k = true → Lst s k) {m' : Nat} {σ' : Ren} {w' : World} {u : Value}
    (mle' : m' ≤ ops.size) (mact' : m' = 0 ∨ isE (xsN (P := P) nt ops (m' - 1)) = true) (acts' : ∀ j, j < ops.size → isE (xsN (P := P) nt ops j) = true → ((Lst s j ∨ j = i) ↔ j < m'))
    (ext' : Ext ρs (σ'.cut (H m').next) (H 0) (H m') ws w') (made' : ∀ j, m' ≤ j → j < ops.size → (Lst s j ∨ j = i) → H (j + 1) = H j ∨ MadeAt H ws σ' w' j)
    (pend' : ∀ k, (H m').next ≤ k → σ' k = .no ∨ ∃ j, m' ≤ j ∧ j < ops.size ∧ (Lst s j ∨ j = i) ∧ k = (H j).next ∧ MadeAt H ws σ' w' j)
    (inj' : ∀ i j b n n', σ' i = .live b n → σ' j = .live b n' → i = j) (bd' : ∀ i b n, σ' i = .live b n → b < w'.heap.size)
    (hle : σ.le σ') (hcut : (σ.cut (H m).next).le (σ'.cut (H m').next)) (hv : VR σ' (v i) u) (hd : ∀ d, (opN ops i).dst = some d → d < a.tmps.size ∨ VR σ' (v i) undef) :
    Inv P nt ops F r v H ρs ws (s.setIfInBounds i true) m' σ' (a.put (opN ops i).dst u) w' := by
  have his : i < s.size := by rw [hI.size]; exact hi
  have hL := Lst_set his
  refine { size := by rw [Array.size_setIfInBounds]; exact hI.size, clos := fun j hj hlj k hk => ?_, mle := mle', mact := mact', acts := fun j hj he => by rw [hL]; exact acts' j hj he, ext := ext', made := fun j h1 h2 h3 => made' j h1 h2 ((hL j).1 h3), pend := fun k hk => ?_, inj := inj', bd := bd', vals := fun j hj hlj d hdj => ?_, slots := fun t ht => ?_, tsz := by rw [put_size]; exact hI.tsz, dfr := by rw [put_defers]; exact hI.dfr }
  · rw [hL] at hlj ⊢
    rcases hlj with hlj | rfl
    · exact .inl (hI.clos j hj hlj k hk)
    · exact .inl (hcl k hk)
  · rcases pend' k hk with h | ⟨j, h1, h2, h3, h4⟩
    · exact .inl h
    · exact .inr ⟨j, h1, h2, (hL j).2 h3, h4⟩
  · by_cases hji : j = i
    · subst hji
      rw [hdj]
      show VR σ' (v j) ((a.tmps.setIfInBounds d u).getD d undef)
      rw [Array.getD_eq_getD_getElem?, Array.getElem?_setIfInBounds, if_pos rfl]
      by_cases hs : d < a.tmps.size
      · rw [if_pos hs]; exact hv
      · rw [if_neg hs]
        rcases hd d hdj with h | h
        · exact absurd h hs
        · exact h
    · have hne : (opN ops i).dst ≠ some d := hp.distinct hji hj hi hdj
      have hold := (hI.vals j hj (((hL j).1 hlj).resolve_right hji) d hdj).mono hle
      cases hdi : (opN ops i).dst with
      | none => exact hold
      | some d' =>
        rw [hdi] at hne
        show VR σ' (v j) ((a.tmps.setIfInBounds d' u).getD d undef)
        have : (a.tmps.setIfInBounds d' u).getD d undef = a.tmps.getD d undef := by
          rw [Array.getD_eq_getD_getElem?, Array.getD_eq_getD_getElem?, Array.getElem?_setIfInBounds, if_neg (by simpa using hne)]
        rw [this]; exact hold
  · have hold := (hI.slots t fun j hj hlj => ht j hj ((hL j).2 (.inl hlj))).mono hcut
    have hne := ht i hi ((hL i).2 (.inr rfl))
    cases hdi : (opN ops i).dst with
    | none => exact hold
    | some d' =>
      rw [hdi] at hne
      show VR _ _ ((a.tmps.setIfInBounds d' u).getD t undef)
      have : (a.tmps.setIfInBounds d' u).getD t undef = a.tmps.getD t undef := by
        rw [Array.getD_eq_getD_getElem?, Array.getD_eq_getD_getElem?, Array.getElem?_setIfInBounds, if_neg (by simpa using hne)]
      rw [this]; exact hold

/-- what an operation reads -/
theorem Inv.reads (hp : Plan P call nt ops F r v H) (hI : Inv P nt ops F r v H ρs ws s m σ a w) {i : Nat} (hi : i < ops.size) (hn : ¬ Lst s i) (hcl : ∀ k, Nat.testBit (r i) k = true → Lst s k) {t : Nat} (ht : t ∈ readsN ops i) :
    VR σ (ev F (Lv v i) (co (dsv ops i) (.tmp t))) (a.tmps.getD t undef) ∧ (m ≤ i → VR (σ.cut (H i).next) (ev F (Lv v i) (co (dsv ops i) (.tmp t))) (a.tmps.getD t undef)) := by
  rw [co_tmp]
  rcases findD_dsv ops t i with ⟨k, h1, h2, h3⟩ | ⟨h1, h2⟩
  · rw [h1]
    simp only
    rw [ev_l, Lv_nth v i k h2]
    have hj : i - 1 - k < i := by omega
    have hlst : Lst s (i - 1 - k) := by
      rcases (hp.pairs hj hi).2 with g | ⟨g, _⟩
      · exact hcl _ g
      · exact absurd ht (g t h3)
    have hval := hI.vals _ (by omega) hlst t h3
    refine ⟨hval, fun hm => ?_⟩
    exact (lowA_ok (hp.low (by omega)) hval).mono (cut_le σ (hp.next_mono (by omega) (by omega)))
  · rw [h1]
    simp only
    have hno : ∀ j, j < ops.size → Lst s j → (opN ops j).dst ≠ some t := fun j hj hlj hdj => by
      rcases Nat.lt_trichotomy j i with g | g | g
      · exact h2 j g hdj
      · subst g; exact hn hlj
      · rcases (hp.pairs g hj).2 with q | ⟨_, q, _⟩
        · exact hn (hI.clos j hj hlj i q)
        · exact q t hdj ht
    have hs := hI.slots t hno
    rw [ev_f] at hs ⊢
    exact ⟨hs.mono (cut_le_self σ _), fun hm => hs.mono (cut_le σ (hp.next_mono hm (by omega)))⟩

theorem opnd_of {ρ : Ren} {h : Hp} {a : Act} {ds : List (Option Nat)} {L : List AV} {F : Fr} (hg : Gl ρ h) {o : Oper} (hr : ∀ t, t ∈ o.op.operands.toList.flatMap opnd → VR ρ (ev F L (co ds (.tmp t))) (a.tmps.getD t undef)) : ∀ x ∈ o.op.operands, VR ρ (ev F L (co ds x)) (a.eval x) := fun x hx => by
  cases x with
  | tmp t => exact hr t (List.mem_flatMap.2 ⟨.tmp t, by simpa using hx, by simp [opnd]⟩)
  | const v => exact cv_ok ρ v
  | global g =>
    show VR ρ (ev F L (bif Nat.blt g 8 then .c (.ptr g 0) else .c .bot)) _
    rw [blt_nat]
    by_cases h8 : g < 8
    · obtain ⟨⟨n, hn⟩, _⟩ := hg g h8
      simp only [h8, decide_true, cond_true]
      exact .ptr _ _ _ _ hn
    · simp only [h8, decide_false, cond_false]
      exact .bot _
  | func f => exact .func _ _ _ .nil

theorem guard_reads {i j d : Nat} {wt : Bool} (hg : (opN ops i).guard = some (j, wt)) (hd : (ops[j]?).bind (·.dst) = some d) : d ∈ readsN ops i := by
  unfold readsN guardT
  rw [hg]
  simp only
  rw [show ops.toList[j]? = ops[j]? by simp, hd]
  simp

/-- the renaming as a whole fits the memory behind the last act -/
theorem Inv.wr (hI : Inv P nt ops F r v H ρs ws s m σ a w) : WR σ (H m) w := by
  have hw := hI.ext.wr
  have lt : ∀ i k, (H m).t.get i = some k → i < (H m).next := fun i k hk => by
    rcases Nat.lt_or_ge i (H m).next with g | g
    · exact g
    · rw [hw.fresh i g] at hk; cases hk
  refine ⟨hI.bd, hI.inj, fun i b n k hi hk => ?_, fun i k hi hk => ?_, hw.fresh, fun i k hk => ?_⟩
  · obtain ⟨o, h1, h2⟩ := hw.blk i b n k (by rw [Ren.cut_lt _ (lt i k hk)]; exact hi) hk
    refine ⟨o, h1, h2.keep (cut_le_self σ _) fun r' b' m' es ver hr hes => ⟨?_, .inl ⟨hes, rfl⟩⟩⟩
    rw [Ren.cut_lt _ (lt r' _ hes)] at hr; exact hr
  · exact hw.dead i k (by rw [Ren.cut_lt _ (lt i k hk)]; exact hi) hk
  · have := hw.all i k hk
    rw [Ren.cut_lt _ (lt i k hk)] at this
    exact this

theorem Inv.gl (hg : Gl ρs (H 0)) (hl : Lim ρs (H 0)) (hI : Inv P nt ops F r v H ρs ws s m σ a w) : Gl (σ.cut (H m).next) (H m) := hg.ext hl hI.ext
end plan
end
end Hx
