/- The evaluator: regions that draw their order: the theorem. -/
import Derived.Test.YtopkkjgjohgogaaGreatDoorHxT
namespace Hx
open Go

section
variable {P : Program}
variable {call : CallT} {nt : Nat} {ops : Array Oper} {F : Fr} {r : Nat → Nat} {v : Nat → AV} {H : Nat → Hp}
variable {ρs : Ren} {ws : World} {s : Array Bool} {m : Nat} {σ : Ren} {a : Act} {w : World}

theorem core_binds {e : Edge} (h : coreE e = true) : Region.binds .any e = true := by
  unfold coreE at h
  unfold Region.binds
  split at h
  · cases h
  · cases h
  · rename_i h1 h2
    split
    · rename_i q; exact absurd q (h1 _)
    · rename_i q; exact absurd q (h2 _)
    · rfl

theorem opN_get {i : Nat} (hi : i < ops.size) : ops[i]? = some (opN ops i) := by simp [opN, hi]

theorem ready_mem {i : Nat} (_hs : s.size = ops.size) (h : i ∈ Region.ready .any ops s) : i < ops.size ∧ ¬ Lst s i ∧ ∀ e ∈ (opN ops i).after.toList, coreE e = true → Lst s e.on := by
  unfold Region.ready at h
  rw [List.mem_filter, List.mem_range] at h
  obtain ⟨hi, h⟩ := h
  rw [opN_get hi] at h
  simp only [Bool.and_eq_true, Bool.not_eq_true', Option.map_some, Option.getD_some] at h
  obtain ⟨h1, h2⟩ := h
  refine ⟨hi, fun hl => ?_, fun e he hc => ?_⟩
  · unfold Lst at hl
    rw [Array.getD_eq_getD_getElem?, hl] at h1
    cases h1
  · rw [Array.all_eq_true'] at h2
    have := h2 e (by simpa using he)
    rw [core_binds hc] at this
    simp only [Bool.not_true, Bool.false_or] at this
    unfold Lst
    rw [Array.getD_eq_getD_getElem?] at this
    cases hq : s[e.on]? with
    | none => rw [hq] at this; cases this
    | some b => rw [hq] at this; simp only [Option.getD_some] at this; rw [this]

theorem mem_ready {i : Nat} (hs : s.size = ops.size) (hi : i < ops.size) (hn : ¬ Lst s i) (h : ∀ e ∈ (opN ops i).after.toList, Region.binds .any e = true → Lst s e.on) : i ∈ Region.ready .any ops s := by
  unfold Region.ready
  rw [List.mem_filter, List.mem_range]
  refine ⟨hi, ?_⟩
  rw [opN_get hi]
  simp only [Bool.and_eq_true, Bool.not_eq_true', Option.map_some, Option.getD_some]
  constructor
  · rw [Array.getD_eq_getD_getElem?]
    cases hq : s[i]? with
    | none => rw [Array.getElem?_eq_none_iff] at hq; omega
    | some b =>
      cases b with
      | false => rfl
      | true => exact absurd hq hn
  · rw [Array.all_eq_true']
    intro e he
    cases hb : Region.binds .any e with
    | false => rfl
    | true =>
      have := h e (by simpa using he) hb
      unfold Lst at this
      rw [Array.getD_eq_getD_getElem?, this]; rfl

theorem binds_core {e : Edge} (h : Region.binds .any e = true) : coreE e = true := by
  unfold Region.binds at h
  unfold coreE
  split at h
  · cases h
  · cases h
  · rename_i h1 h2
    split
    · rename_i q; exact absurd q (h1 _)
    · rename_i q; exact absurd q (h2 _)
    · rfl

/-- where nothing is ready, all was run -/
theorem all_listed (hp : Plan P call nt ops F r v H) (hs : s.size = ops.size) (h : Region.ready .any ops s = []) : ∀ i, i < ops.size → Lst s i := by
  intro i
  induction i using Nat.strongRecOn with
  | _ i ih =>
    intro hi
    refine Classical.byContradiction fun hn => ?_
    have : i ∈ Region.ready .any ops s := mem_ready hs hi hn fun e he hb => by
      have hlt := reach_lt (hp.reach i hi) e he (binds_core hb)
      exact ih e.on hlt (by omega)
    rw [h] at this; cases this

theorem isE_cases {x : XOper} (h : isE x = true) : (∀ o, x.op ≠ .p o) ∧ (∀ o, x.op ≠ .l o) ∧ ∀ o, x.op ≠ .a o := by
  unfold isE cls at h
  refine ⟨fun o e => ?_, fun o e => ?_, fun o e => ?_⟩ <;> rw [e] at h <;> cases h

/-- one operation, run when it is ready -/
theorem Inv.run (hcall : CallOk P call) (hng : NoNG P) (hp : Plan P call nt ops F r v H) (hgs : Gl ρs (H 0)) (hls : Lim ρs (H 0)) (hI : Inv P nt ops F r v H ρs ws s m σ a w) {i : Nat} (hr : i ∈ Region.ready .any ops s) {Q : Exit → Act → World → Prop} {K : Act → World → Prop}
    (hK : ∀ m' σ' a' w', Inv P nt ops F r v H ρs ws (s.setIfInBounds i true) m' σ' a' w' → K a' w') : wpOp P ops Q i K a w := by
  obtain ⟨hi, hn, hedge⟩ := ready_mem hI.size hr
  have hcl : ∀ k, Nat.testBit (r i) k = true → Lst s k := fun k hk => by
    obtain ⟨e, h1, h2, h3, h4⟩ := reach_bit (hp.reach i hi) k hk
    have hl := hedge e h1 h2
    rcases h4 with rfl | h4
    · exact hl
    · exact hI.clos e.on (by omega) hl k h4
  have hst := hp.step i hi
  have hxg : (xsN (P := P) nt ops i).guard = guardX ops.toList (dsv ops i) (opN ops i) := rfl
  have hwant : ∀ b, wantedX (xsN (P := P) nt ops i).guard F (Lv v i) = some b → Region.wanted (opN ops i) (yielded ops a.tmps) = b := fun b hb => by
    rw [hxg] at hb
    exact wanted_ok' (fun j wt d hg hd => (hI.reads hp hi hn hcl (guard_reads hg hd)).1) hb
  have hgl : Gl (σ.cut (H m).next) (H m) := hI.gl hgs hls
  -- all that stands between the last act and this one
  have hbetw : isE (xsN (P := P) nt ops i) = true → ∀ j, m ≤ j → j < i → H (j + 1) = H j ∨ Lst s j := fun hE j h1 h2 => by
    rcases (hp.pairs h2 hi).2 with q | ⟨_, _, q⟩
    · exact .inr (hcl j q)
    · cases hEj : isE (xsN (P := P) nt ops j) with
      | true => exact absurd ⟨hE, .inl hEj⟩ q
      | false =>
        rcases cls_e hEj with ⟨o, ho⟩ | ⟨o, ho⟩ | ⟨o, ho⟩
        · exact .inl (step_p ho (hp.step j (by omega))).1
        · exact .inl (step_l ho (hp.step j (by omega)))
        · exact absurd ⟨hE, .inr (by rw [ho]; rfl)⟩ q
  unfold wpOp
  rw [opN_get hi]
  simp only
  rcases hst with ⟨h1, h2, h3⟩ | ⟨h1, h2, h3, h4⟩
  · -- not wanted
    rw [hwant _ h1]
    simp only [Bool.false_eq_true, if_false]
    cases hE : isE (xsN (P := P) nt ops i) with
    | false => exact hK _ _ _ _ (hI.still hp hi hcl hE h3 (by rw [h2]; exact tup0) fun d _ => .inr (by rw [h2]; exact tup0))
    | true =>
      have hmi := hI.make_ge hp hi hn (.inl hE)
      have e1 := hI.absorbed hmi (by omega) (hbetw hE)
      obtain ⟨σ', hI'⟩ := hI.act hp hls hi hn hcl hE e1 (ρ' := σ.cut (H i).next) (w' := w) (u := undef) (by rw [h2]; exact tup0) (by rw [h3]; exact Ext.rfl e1.wr e1.lim) fun d _ => .inr (by rw [h2]; exact tup0)
      exact hK _ _ _ _ hI'
  · rw [hwant _ h1, if_pos rfl]
    refine .inl ?_
    have hne : (bif (match (opN ops i).dst with | some d => Nat.blt d nt | none => true) then compOp P (dsv ops i) (opN ops i) else .bad) ≠ .bad := fun e => by
      have : (xsN (P := P) nt ops i).op = .bad := e
      rw [this] at h2; cases h2
    obtain ⟨g1, g2⟩ := dst_lt hne
    have hop : (xsN (P := P) nt ops i).op = compOp P (dsv ops i) (opN ops i) := g1
    have hds : ∀ d, (opN ops i).dst = some d → d < a.tmps.size := fun d hd => Nat.lt_of_lt_of_le (g2 d hd) hI.tsz
    have hrd : ∀ t, t ∈ (opN ops i).op.operands.toList.flatMap opnd → t ∈ readsN ops i := fun t ht => by unfold readsN; exact List.mem_append.2 (.inr ht)
    cases hE : isE (xsN (P := P) nt ops i) with
    | false =>
      rcases cls_e hE with ⟨o, ho⟩ | ⟨o, ho⟩ | ⟨o, ho⟩
      · -- worldless
        obtain ⟨q1, q2⟩ := step_p ho (hp.step i hi)
        have hgσ : Gl σ (H m) := fun g hg => by
          obtain ⟨⟨n, hn⟩, hh⟩ := hgl g hg
          refine ⟨⟨n, ?_⟩, hh⟩
          unfold Ren.cut at hn
          split at hn
          · exact hn
          · cases hn
        obtain ⟨u, k1, k2⟩ := sound_p (w := w) (hop.symm.trans ho) (opnd_of hgσ fun t ht => (hI.reads hp hi hn hcl (hrd t ht)).1) (q2 h1)
        exact run_res k1 rfl (.inl rfl) K Q (hK _ _ _ _ (hI.still hp hi hcl hE q1 k2 fun d hd => .inl (hds d hd)))
      · -- it reads
        have q1 := step_l ho (hp.step i hi)
        have hgσ : Gl σ (H m) := fun g hg => by
          obtain ⟨⟨n, hn⟩, hh⟩ := hgl g hg
          refine ⟨⟨n, ?_⟩, hh⟩
          unfold Ren.cut at hn
          split at hn
          · exact hn
          · cases hn
        have hlook : lopX o F (Lv v i) (H m) = some (v i) := by
          refine hp.gap i hi o ho h1 m hI.mle hI.mact ?_ ?_
          · have : cnt (fun k => isE (xsN (P := P) nt ops k)) m = cnt (fun k => isE (xsN (P := P) nt ops k) && decide (k < m)) ops.size := by
              rw [cnt_split (m := m) hI.mle fun k h1 h2 => by simp; omega]
              exact cnt_congr fun k hk => by simp [hk]
            rw [this]
            refine cnt_le fun k hk hf => ?_
            simp only [Bool.and_eq_true, decide_eq_true_eq] at hf ⊢
            exact ⟨hf.1, (hI.acts k hk hf.1).1 (hcl k hf.2)⟩
          · have : cnt (fun k => isE (xsN (P := P) nt ops k)) m = cnt (fun k => isE (xsN (P := P) nt ops k) && decide (k < m)) ops.size := by
              rw [cnt_split (m := m) hI.mle fun k h1 h2 => by simp; omega]
              exact cnt_congr fun k hk => by simp [hk]
            rw [this]
            refine cnt_le fun k hk hf => ?_
            simp only [Bool.and_eq_true, decide_eq_true_eq, Bool.not_eq_true'] at hf ⊢
            refine ⟨hf.1, ?_⟩
            cases hb : Nat.testBit (r k) i with
            | false => rfl
            | true => exact absurd (hI.clos k hk ((hI.acts k hk hf.1).2 hf.2) i hb) hn
        obtain ⟨u, k1, k2⟩ := sound_l hI.wr (hop.symm.trans ho) (opnd_of hgσ fun t ht => (hI.reads hp hi hn hcl (hrd t ht)).1) hlook
        exact run_res k1 rfl (.inl rfl) K Q (hK _ _ _ _ (hI.still hp hi hcl hE q1 k2 fun d hd => .inl (hds d hd)))
      · -- it makes
        have hmi := hI.make_ge hp hi hn (.inr (by rw [ho]; rfl))
        have hgc : Gl (σ.cut (H i).next) (H m) := fun g hg => by
          obtain ⟨⟨n, hn⟩, hh⟩ := hgl g hg
          refine ⟨⟨n, ?_⟩, hh⟩
          have hmn := hp.next_mono hmi (by omega)
          unfold Ren.cut at hn ⊢
          split at hn
          · rw [if_pos (by omega)]; exact hn
          · cases hn
        have hq := h2
        rw [ho] at hq
        have hq : Option.rec (motive := fun _ => OR) (.bad []) (fun p => Prod.rec (motive := fun _ => OR) (fun b m => .ok [m.val (H i).next] ((H i).new b)) p) (aopX o F (Lv v i)) = .ok [v i] (H (i + 1)) := hq
        cases hpo : aopX o F (Lv v i) with
        | none => rw [hpo] at hq; cases hq
        | some bm =>
          obtain ⟨B, mk⟩ := bm
          rw [hpo] at hq
          simp only [OR.ok.injEq, List.cons.injEq, and_true] at hq
          obtain ⟨obj, vc, w', n, k1, k2, k3, k4, k5, k6, k7⟩ := sound_a (w := w) (hop.symm.trans ho) (opnd_of hgc fun t ht => (hI.reads hp hi hn hcl (hrd t ht)).2 hmi) hpo
          obtain ⟨σ', hI'⟩ := hI.make hp hi hn hcl ho hq.1.symm hq.2.symm ⟨k2, k3, k4, k5⟩ k6 k7 hds
          exact run_res k1 rfl (.inl rfl) K Q (hK _ _ _ _ hI')
    | true =>
      have hmi := hI.make_ge hp hi hn (.inl hE)
      have e1 := hI.absorbed hmi (by omega) (hbetw hE)
      have hgi : Gl (σ.cut (H i).next) (H i) := hgs.ext hls e1
      rw [hop] at h2
      obtain ⟨u0, hh, k1, k2⟩ := op_ok hcall hng e1.wr e1.lim hgi (opnd_of hgi fun t ht => (hI.reads hp hi hn hcl (hrd t ht)).2 hmi) h2
      simp only [OR.ok.injEq, List.cons.injEq, and_true] at k1
      obtain ⟨rfl, rfl⟩ := k1
      refine k2 K Q fun u w' ρ' hv he => ?_
      obtain ⟨σ', hI'⟩ := hI.act hp hls hi hn hcl hE e1 hv he fun d hd => .inl (hds d hd)
      exact hK _ _ _ _ hI'

/-- how many are to be run -/
def left (s : Array Bool) (n : Nat) : Nat := cnt (fun j => !(s[j]? == some true)) n

theorem cnt_lt {f g : Nat → Bool} : ∀ {n : Nat}, (∀ k, k < n → f k = true → g k = true) → ∀ i, i < n → f i = false → g i = true → cnt f n + 1 ≤ cnt g n
  | 0, _, i, hi, _, _ => by omega
  | n + 1, h, i, hi, h1, h2 => by
    simp only [cnt]
    by_cases hin : i = n
    · subst hin
      rw [if_neg (by rw [h1]; decide), if_pos h2]
      have := cnt_le (n := i) fun k hk => h k (by omega)
      omega
    · have ih := cnt_lt (n := n) (fun k hk => h k (by omega)) i (by omega) h1 h2
      by_cases hf : f n = true
      · rw [if_pos hf, if_pos (h n (by omega) hf)]; omega
      · rw [if_neg hf]
        split <;> omega

theorem left_set {i : Nat} (hs : s.size = ops.size) (hi : i < ops.size) (hn : ¬ Lst s i) : left (s.setIfInBounds i true) ops.size + 1 ≤ left s ops.size := by
  have hL := Lst_set (s := s) (i := i) (by omega)
  unfold Lst at hL hn
  refine cnt_lt (fun k hk hf => ?_) i hi ?_ ?_
  · simp only [Bool.not_eq_true', beq_eq_false_iff_ne, ne_eq] at hf ⊢
    exact fun e => hf ((hL k).2 (.inl e))
  · simp only [Bool.not_eq_false', beq_iff_eq]
    exact (hL i).2 (.inr rfl)
  · simp only [Bool.not_eq_true', beq_eq_false_iff_ne, ne_eq]
    exact hn

theorem left_zero (h : left s ops.size = 0) : ∀ i, i < ops.size → Lst s i := fun i hi => by
  refine Classical.byContradiction fun hn => ?_
  have := cnt_lt (f := fun _ => false) (g := fun j => !(s[j]? == some true)) (n := ops.size) (fun k _ e => by cases e) i hi rfl (by
    simp only [Bool.not_eq_true', beq_eq_false_iff_ne, ne_eq]
    exact hn)
  unfold left at h
  omega

theorem any_ok (hcall : CallOk P call) (hng : NoNG P) (hp : Plan P call nt ops F r v H) (hgs : Gl ρs (H 0)) (hls : Lim ρs (H 0)) {Q : Exit → Act → World → Prop}
    (hQ : ∀ s m σ a w, Inv P nt ops F r v H ρs ws s m σ a w → (∀ i, i < ops.size → Lst s i) → Q .normal a w) : ∀ (fuel : Nat) (s : Array Bool) (m : Nat) (σ : Ren) (a : Act) (w : World), Inv P nt ops F r v H ρs ws s m σ a w → left s ops.size ≤ fuel → wpAny P .any ops Q fuel s a w
  | 0, s, m, σ, a, w, hI, hf => by
    have hall := left_zero (ops := ops) (s := s) (by omega)
    refine ⟨?_, hQ s m σ a w hI hall⟩
    cases hr : Region.ready .any ops s with
    | nil => rfl
    | cons i l =>
      obtain ⟨hi, hn, _⟩ := ready_mem hI.size (show i ∈ Region.ready .any ops s by rw [hr]; simp)
      exact absurd (hall i hi) hn
  | fuel + 1, s, m, σ, a, w, hI, hf => by
    refine ⟨fun hr => hQ s m σ a w hI (all_listed hp hI.size hr), fun i hr => ?_⟩
    obtain ⟨hi, hn, _⟩ := ready_mem hI.size hr
    have hlt := left_set hI.size hi hn
    exact hI.run hcall hng hp hgs hls hr fun m' σ' a' w' hI' => any_ok hcall hng hp hgs hls hQ fuel _ m' σ' a' w' hI' (by omega)

theorem WR.same {ρ : Ren} {h : Hp} {w w' : World} (hw : WR ρ h w) (he : w'.heap = w.heap) : WR ρ h w' where
  bd := by rw [he]; exact hw.bd
  inj := hw.inj
  blk := fun i b n k hi hk => by
    obtain ⟨o, h1, h2⟩ := hw.blk i b n k hi hk
    exact ⟨o, by rw [he]; exact h1, h2.keep (Ren.le_refl _) fun r b m es ver hr hes => ⟨hr, .inl ⟨hes, by rw [he]⟩⟩⟩
  dead := hw.dead
  fresh := hw.fresh
  all := hw.all

theorem plan_of {id : Nat} {ks : List (Nat × Nat)} {gs : List Gp} {h h' : Hp} {F' : Fr} (hpd : planD P nt ops.toList = some gs)
    (hr : rdX F ks gs (opsG P call (compOps P nt ops.toList ops.toList []) F [] h [h]) id = .norm F' h') :
    ∃ r v H, Plan P call nt ops F r v H ∧ H 0 = h ∧ H ops.size = h' ∧ F' = keepF (Lv v ops.size) ks F := by
  unfold planD at hpd
  rw [comp_all] at hr hpd
  cases hps : plans ops.toList ops.toList ((List.range' 0 ops.size).map (xsN (P := P) nt ops)) [] 0 with
  | none => rw [hps] at hpd; cases hpd
  | some ps =>
    rw [hps] at hpd
    simp only at hpd
    have hps' := hps
    conv at hps' => lhs; arg 2; rw [ops_range ops]
    obtain ⟨r, _, hreach, hpl⟩ := plans_range ops (xsN (P := P) nt ops) ops.size 0 (fun _ => 0) ps hps'
    cases hpa : pairsAll ps 0 with
    | false => rw [hpa] at hpd; cases hpd
    | true =>
      rw [hpa] at hpd
      simp only [cond_true, Option.some.injEq] at hpd
      cases hg : opsG P call ((List.range' 0 ops.size).map (xsN (P := P) nt ops)) F [] h [h] with
      | bad y => rw [hg] at hr; cases hr
      | ok L h1 G =>
        rw [hg] at hr
        have hr : (bif gapsOk F L G gs then XR.norm (keepF L ks F) h1 else .bad [id, 2222222]) = .norm F' h' := hr
        cases hgo : gapsOk F L G gs with
        | false => rw [hgo] at hr; cases hr
        | true =>
          rw [hgo] at hr
          simp only [cond_true, XR.norm.injEq] at hr
          obtain ⟨rfl, rfl⟩ := hr
          obtain ⟨v, H, _, hH0, hstep, rfl, hH1, rfl⟩ := ref_run (xs := xsN (P := P) nt ops) ops.size 0 (fun _ => .bot) h [h] L h1 G hg
          rw [Nat.zero_add] at hH1 hstep hgo
          refine ⟨r, v, H, ⟨fun i hi => hstep i (by omega) hi, fun j hj => hreach j (by omega) (by omega), fun i j hij hj => ?_, fun i hi lo hlo hw m hm hma hc1 hc2 => ?_⟩, hH0, hH1.symm, by rw [Nat.zero_add]⟩
          · rw [hpl] at hpa
            exact pairsAll_get (plN ops (xsN (P := P) nt ops) r) ops.size 0 hpa i j (by omega) hij (by omega)
          · have hmem := gapsOf_get ps (plN ops (xsN (P := P) nt ops) r) ops.size 0 i lo (by omega) (by omega) (by unfold plN; rw [hlo])
            rw [← hpl, hpd] at hmem
            have hdrop : dropN (Nat.succ (0 + ops.size - 1 - i)) (Lv v ops.size) = Lv v i := by
              rw [dropN_eq, show Nat.succ (0 + ops.size - 1 - i) = ops.size - i by omega]
              exact Lv_drop v ops.size i (by omega)
            have hnth : nth (Lv v ops.size) (0 + ops.size - 1 - i) = v i := by
              rw [Lv_nth v ops.size _ (by omega)]; congr 1; omega
            have hall := gapsOk_mem hgo _ hmem (by simp only; rw [hdrop]; exact hw)
            simp only at hall
            rw [hdrop, hnth, lenN_eq] at hall
            refine gapAll_mem hall (H m) ?_
            have e1 := gapLo_cnt (plN ops (xsN (P := P) nt ops) r) (r i) ops.size 0
            have e2 := gapHi_cnt (plN ops (xsN (P := P) nt ops) r) i ops.size 0
            rw [← hpl] at e1 e2
            simp only [cnt, Nat.add_zero, Nat.zero_add] at e1 e2
            have f1 : gapLo ps (plN ops (xsN (P := P) nt ops) r i).reach 0 ≤ cnt (fun k => isE (xsN (P := P) nt ops k)) m := by
              show gapLo ps (r i) 0 ≤ _
              rw [e1]; exact hc1
            have f2 : cnt (fun k => isE (xsN (P := P) nt ops k)) m ≤ gapHi ps i := by rw [e2]; exact hc2
            have hlen := Gv_length (fun i => isE (xsN (P := P) nt ops i)) H h ops.size
            have hget := Gv_get (fun i => isE (xsN (P := P) nt ops i)) H ops.size m hm hma
            rw [hH0] at hget
            have hT := cnt_mono (fun k => isE (xsN (P := P) nt ops k)) hm
            have hhi : gapHi ps i ≤ cnt (fun k => isE (xsN (P := P) nt ops k)) ops.size := by
              rw [e2]
              exact cnt_le fun k _ hf => by
                have : (isE (xsN (P := P) nt ops k) && !(Nat.testBit (r k) i)) = true := hf
                rw [Bool.and_eq_true] at this; exact this.1
            rw [hlen, dropN_eq]
            generalize gapLo ps (plN ops (xsN (P := P) nt ops) r i).reach 0 = lo' at f1 ⊢
            generalize gapHi ps i = hi' at f2 hhi ⊢
            generalize hTT : cnt (fun k => isE (xsN (P := P) nt ops k)) ops.size = T at hget hT hhi ⊢
            generalize cnt (fun k => isE (xsN (P := P) nt ops k)) m = e at f1 f2 hget hT
            have hidx : ((Gv (fun i => isE (xsN (P := P) nt ops i)) H [h] 0 ops.size).drop (Nat.sub (T + 1) (Nat.succ hi')) |>.take (Nat.succ (Nat.sub hi' lo')))[hi' - e]? = some (H m) := by
              rw [List.getElem?_take, if_pos (by show hi' - e < (hi' - lo') + 1; omega), List.getElem?_drop]
              have : Nat.sub (T + 1) (Nat.succ hi') + (hi' - e) = T - e := by show (T + 1) - (hi' + 1) + (hi' - e) = T - e; omega
              rw [this]; exact hget
            exact List.mem_of_getElem? hidx

theorem dsv_rev : ops.toList.reverse.map (·.dst) = dsv ops ops.size := by
  have key : ∀ n, ((List.range' 0 n).map (opN ops)).reverse.map (·.dst) = dsv ops n := by
    intro n
    induction n with
    | zero => rfl
    | succ n ih =>
      rw [List.range'_concat, List.map_append, List.reverse_append, List.map_append, ih]
      simp [dsv, Lv]
  rw [← key, ← ops_range]

theorem region_draws {outs id : Nat} (hm : P.follows .mixedOrders = true) (hcall : CallOk P call) (hng : NoNG P) {F' : Fr} {h h' : Hp} {ρ : Ren}
    (hr : regionX P nt outs call ops.toList true id F h = .norm F' h') (hw : WR ρ h w) (hl : Lim ρ h) (hg : Gl ρ h) (hf : FR ρ F [] [] a) (hfm : Fm nt outs F a) : (Code.region id ops true).wp P (Done nt outs (.norm F' h') ρ h w) a w := by
  have hr : (match planD P nt ops.toList with
      | some gs => rdX F (keepL outs (ops.toList.reverse.map (·.dst)) 0) gs (opsG P call (compOps P nt ops.toList ops.toList []) F [] h [h]) id
      | none => .bad [id, 3333333]) = XR.norm F' h' := hr
  cases hpd : planD P nt ops.toList with
  | none => rw [hpd] at hr; cases hr
  | some gs =>
    rw [hpd] at hr
    obtain ⟨r, v, H, hp, rfl, rfl, rfl⟩ := plan_of hpd hr
    refine wp_region_any hm ?_
    have hcut : ρ.cut (H 0).next = ρ := by
      funext k
      unfold Ren.cut
      split
      · rfl
      · exact (hl k (by omega)).symm
    have h0 : Ext ρ ρ (H 0) (H 0) w { w with drawn := w.drawn + 1 } :=
      ⟨hw.same rfl, hl, Ren.le_refl _, Nat.le_refl _, Nat.le_refl _, fun _ _ _ h => .inl h, fun _ _ _ => rfl, fun _ _ h => h, fun _ _ _ h _ => h, rfl, rfl, rfl⟩
    have hno : ∀ j, ¬ Lst (Array.replicate ops.size false) j := fun j hj => by
      unfold Lst at hj
      rw [Array.getElem?_replicate] at hj
      split at hj <;> cases hj
    have hI : Inv P nt ops F r v H ρ w (Array.replicate ops.size false) 0 ρ a { w with drawn := w.drawn + 1 } :=
      { size := by simp, clos := fun j _ hj => absurd hj (hno j), mle := Nat.zero_le _, mact := .inl rfl, acts := fun j _ _ => ⟨fun h => absurd h (hno j), fun h => by omega⟩, ext := by rw [hcut]; exact h0,
        made := fun j _ _ h => absurd h (hno j), pend := fun k hk => .inl (hl k hk), inj := hw.inj, bd := hw.bd, vals := fun j _ h => absurd h (hno j), slots := fun t _ => by
          rw [hcut]
          have := hf t
          rw [co_tmp, findD_nil] at this
          exact this, tsz := hfm.size, dfr := hfm.defers }
    refine any_ok hcall hng hp hg hl (fun s m σ a' w' hI' hall => ?_) ops.size _ 0 ρ a _ hI ?_
    · have e := hI'.absorbed hI'.mle (Nat.le_refl _) fun j _ h2 => .inr (hall j h2)
      have hfr : FR (σ.cut (H ops.size).next) F (dsv ops ops.size) (Lv v ops.size) a' := fun t => by
        rw [co_tmp]
        rcases findD_dsv ops t ops.size with ⟨k, h1, h2, h3⟩ | ⟨h1, h2⟩
        · rw [h1]
          simp only
          rw [ev_l, Lv_nth v _ k h2]
          have hj : ops.size - 1 - k < ops.size := by omega
          exact (lowA_ok (hp.low hj) (hI'.vals _ hj (hall _ hj) t h3)).mono (cut_le σ (hp.next_mono (by omega) (by omega)))
        · rw [h1]
          simp only
          have hs := hI'.slots t fun j hj _ => h2 j hj
          rw [ev_f] at hs ⊢
          exact hs.mono (cut_le σ (hp.next_mono hI'.mle (Nat.le_refl _)))
      rw [dsv_rev]
      obtain ⟨k1, k2⟩ := keep_ok hfr hfm hI'.tsz hI'.dfr
      exact ⟨_, _, .inl ⟨rfl, rfl⟩, _, e, k1, k2⟩
    · unfold left
      have : ∀ (f : Nat → Bool) n, cnt f n ≤ n := by
        intro f n
        induction n with
        | zero => exact Nat.le_refl _
        | succ n ih => simp only [cnt]; split <;> omega
      exact this _ _
end
end Hx
