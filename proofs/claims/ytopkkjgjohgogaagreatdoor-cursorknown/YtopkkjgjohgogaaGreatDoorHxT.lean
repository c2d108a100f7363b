/- The evaluator: regions that draw their order: each step, and the end. -/
import Derived.Test.YtopkkjgjohgogaaGreatDoorHxS
namespace Hx
open Go

section
variable {P : Program}
variable {call : CallT} {nt : Nat} {ops : Array Oper} {F : Fr} {r : Nat → Nat} {v : Nat → AV} {H : Nat → Hp}
variable {ρs : Ren} {ws : World} {s : Array Bool} {m : Nat} {σ : Ren} {a : Act} {w : World}

theorem cls_e {x : XOper} (h : isE x = false) : (∃ o, x.op = .p o) ∨ (∃ o, x.op = .l o) ∨ ∃ o, x.op = .a o := by
  unfold isE cls at h
  cases hx : x.op <;> rw [hx] at h <;> first
    | exact .inl ⟨_, rfl⟩
    | exact .inr (.inl ⟨_, rfl⟩)
    | exact .inr (.inr ⟨_, rfl⟩)
    | (simp at h)

theorem step_p {i : Nat} {x : XOper} {o : POp} (hx : x.op = .p o) (hs : Step P call F x v H i) : H (i + 1) = H i ∧ (wantedX x.guard F (Lv v i) = some true → popX o F (Lv v i) = some (v i)) := by
  rcases hs with ⟨h1, _, h3⟩ | ⟨_, h2, _⟩
  · exact ⟨h3, fun h => by rw [h1] at h; cases h⟩
  · rw [hx] at h2
    have h2 : Option.rec (motive := fun _ => OR) (.bad []) (fun u => .ok [u] (H i)) (popX o F (Lv v i)) = .ok [v i] (H (i + 1)) := h2
    cases hp : popX o F (Lv v i) with
    | none => rw [hp] at h2; cases h2
    | some u =>
      rw [hp] at h2
      simp only [OR.ok.injEq, List.cons.injEq, and_true] at h2
      exact ⟨h2.2.symm, fun _ => by rw [h2.1]⟩
theorem step_l {i : Nat} {x : XOper} {o : LOp} (hx : x.op = .l o) (hs : Step P call F x v H i) : H (i + 1) = H i := by
  rcases hs with ⟨h1, _, h3⟩ | ⟨_, h2, _⟩
  · exact h3
  · rw [hx] at h2
    have h2 : Option.rec (motive := fun _ => OR) (.bad []) (fun u => .ok [u] (H i)) (lopX o F (Lv v i) (H i)) = .ok [v i] (H (i + 1)) := h2
    cases hp : lopX o F (Lv v i) (H i) with
    | none => rw [hp] at h2; cases h2
    | some u =>
      rw [hp] at h2
      simp only [OR.ok.injEq, List.cons.injEq, and_true] at h2
      exact h2.2.symm
theorem step_a {i : Nat} {x : XOper} {o : AOp} (hx : x.op = .a o) (hs : Step P call F x v H i) : H (i + 1) = H i ∨ (wantedX x.guard F (Lv v i) = some true ∧ ∃ B mk, aopX o F (Lv v i) = some (B, mk) ∧ v i = mk.val (H i).next ∧ H (i + 1) = (H i).new B) := by
  rcases hs with ⟨h1, _, h3⟩ | ⟨h1, h2, _⟩
  · exact .inl h3
  · rw [hx] at h2
    have h2 : Option.rec (motive := fun _ => OR) (.bad []) (fun p => Prod.rec (motive := fun _ => OR) (fun b m => .ok [m.val (H i).next] ((H i).new b)) p) (aopX o F (Lv v i)) = .ok [v i] (H (i + 1)) := h2
    cases hp : aopX o F (Lv v i) with
    | none => rw [hp] at h2; cases h2
    | some bm =>
      obtain ⟨B, mk⟩ := bm
      rw [hp] at h2
      simp only [OR.ok.injEq, List.cons.injEq, and_true] at h2
      exact .inr ⟨h1, B, mk, rfl, h2.1.symm, h2.2.symm⟩

/-- a block more, of which nothing is known yet -/
theorem Ext.push {ρ ρ' : Ren} {h h' : Hp} {w w' w'' : World} {o : Obj} (e : Ext ρ ρ' h h' w w') (hm : More w' w'' o) : Ext ρ ρ' h h' w w'' where
  wr :=
    { bd := fun i b n hi => by have := e.wr.bd i b n hi; rw [hm.size]; omega
      inj := e.wr.inj
      blk := fun i b n k hi hk => by
        obtain ⟨o', h1, h2⟩ := e.wr.blk i b n k hi hk
        exact ⟨o', by rw [hm.other (e.wr.bd i b n hi)]; exact h1, h2.keep (Ren.le_refl _) fun r c m es ver hr hes => ⟨hr, .inl ⟨hes, hm.other (e.wr.bd r c m hr)⟩⟩⟩
      dead := e.wr.dead
      fresh := e.wr.fresh
      all := e.wr.all }
  lim := e.lim
  le := e.le
  hn := e.hn
  hs := by have := e.hs; rw [hm.size]; omega
  nw := e.nw
  fr := fun b hb hno => by
    rw [← e.fr b hb hno]
    exact hm.other (Nat.lt_of_lt_of_le hb e.hs)
  ow := e.ow
  kp := e.kp
  io := ⟨hm.io.1.trans e.io.1, hm.io.2.1.trans e.io.2.1, hm.io.2.2.trans e.io.2.2⟩

theorem cut_succ {k b n : Nat} (h : σ k = .live b n) : σ.cut (k + 1) = (σ.cut k).upd k (.live b n) := by
  funext i
  show (if i < k + 1 then σ i else .no) = if i = k then .live b n else if i < k then σ i else .no
  by_cases h1 : i = k
  · subst h1; rw [if_pos (by omega), if_pos (by omega), h]
  · by_cases h2 : i < k
    · rw [if_pos (by omega), if_neg h1, if_pos h2]
    · rw [if_neg (by omega), if_neg h1, if_neg h2]

/-- a make gets its turn -/
theorem Ext.absorb (hinj : ∀ i j b n n', σ i = .live b n → σ j = .live b n' → i = j) (hbd : ∀ i b n, σ i = .live b n → b < w.heap.size) {h : Hp} {j : Nat} (e : Ext ρs (σ.cut (H j).next) h (H j) ws w) (hm : MadeAt H ws σ w j) :
    Ext ρs (σ.cut (H (j + 1)).next) h (H (j + 1)) ws w := by
  obtain ⟨b, n, obj, B, h1, h2, h3, h4, h5⟩ := hm
  have hnx : (H (j + 1)).next = (H j).next + 1 := by rw [h4]; rfl
  rw [hnx]
  have hle := cut_le σ (Nat.le_succ (H j).next)
  have live : ∀ i c k, σ.cut ((H j).next + 1) i = .live c k → σ i = .live c k := fun i c k hi => by
    unfold Ren.cut at hi
    split at hi
    · exact hi
    · cases hi
  have live2 : ∀ i c k, i ≠ (H j).next → σ.cut ((H j).next + 1) i = .live c k → σ.cut (H j).next i = .live c k := fun i c k hne hi => by
    unfold Ren.cut at hi ⊢
    split at hi
    · rw [if_pos (by omega)]; exact hi
    · cases hi
  have hget : (H (j + 1)).t.get (H j).next = some B := by rw [h4]; exact new_get_same _ _
  have hgne : ∀ i, i ≠ (H j).next → (H (j + 1)).t.get i = (H j).t.get i := fun i hi => by rw [h4]; exact new_get_ne _ _ hi
  refine { wr := { bd := fun i c k hi => hbd i c k (live i c k hi), inj := fun i i' c k k' g1 g2 => hinj i i' c k k' (live _ _ _ g1) (live _ _ _ g2), blk := fun i c k q hi hq => ?_, dead := fun i q hi hq => ?_, fresh := fun i hi => ?_, all := fun i q hq => ?_ }, lim := fun i hi => ?_, le := Ren.le_trans e.le hle, hn := ?_, hs := e.hs, nw := fun i c k hi => ?_, fr := e.fr, ow := fun i hi ho => ?_, kp := fun i c k hi ho => ?_, io := e.io }
  · by_cases hij : i = (H j).next
    · subst hij
      rw [hget] at hq
      simp only [Option.some.injEq] at hq
      subst hq
      have := live _ _ _ hi
      rw [h1] at this
      simp only [Slot.live.injEq] at this
      obtain ⟨rfl, rfl⟩ := this
      exact ⟨obj, h3, h5 _ _ _ hle⟩
    · rw [hgne i hij] at hq
      obtain ⟨o, g1, g2⟩ := e.wr.blk i c k q (live2 i c k hij hi) hq
      refine ⟨o, g1, g2.keep hle fun r' c' m' es ver hr hes => ?_⟩
      have hlt := e.lim.lt hr
      exact ⟨by rw [Ren.cut_lt _ (by omega)]; rw [Ren.cut_lt _ hlt] at hr; exact hr, .inl ⟨by rw [hgne r' (by omega)]; exact hes, Eq.refl _⟩⟩
  · by_cases hij : i = (H j).next
    · subst hij
      rw [Ren.cut_lt _ (by omega), h1] at hi; cases hi
    · rw [hgne i hij] at hq
      refine e.wr.dead i q ?_ hq
      unfold Ren.cut at hi ⊢
      split at hi
      · rw [if_pos (by omega)]; exact hi
      · cases hi
  · rw [hnx] at hi
    rw [hgne i (by omega)]
    exact e.wr.fresh i (by omega)
  · by_cases hij : i = (H j).next
    · subst hij
      rw [Ren.cut_lt _ (by omega), h1]; simp
    · rw [hgne i hij] at hq
      have := e.wr.all i q hq
      unfold Ren.cut at this ⊢
      split at this
      · rw [if_pos (by omega)]; exact this
      · exact (this (Eq.refl _)).elim
  · rw [hnx] at hi
    unfold Ren.cut
    rw [if_neg (by omega)]
  · have := e.hn; omega
  · by_cases hij : i = (H j).next
    · subst hij
      have := live _ _ _ hi
      rw [h1] at this
      simp only [Slot.live.injEq] at this
      obtain ⟨rfl, rfl⟩ := this
      exact .inr ⟨e.hn, .inl h2⟩
    · exact e.nw i c k (live2 i c k hij hi)
  · have := e.hn
    obtain ⟨q, g1, g2⟩ := ho
    rw [hgne i (by omega)] at g1
    exact e.ow i hi ⟨q, g1, g2⟩
  · have := e.kp i c k hi ho
    rw [Ren.cut_lt _ (by have := e.lim.lt this; omega)]
    rw [Ren.cut_lt _ (e.lim.lt this)] at this
    exact this

theorem Inv.absorbed (hI : Inv P nt ops F r v H ρs ws s m σ a w) {i : Nat} (hmi : m ≤ i) (hi : i ≤ ops.size) (hall : ∀ j, m ≤ j → j < i → H (j + 1) = H j ∨ Lst s j) : Ext ρs (σ.cut (H i).next) (H 0) (H i) ws w := by
  induction i with
  | zero => have : m = 0 := by omega
            subst this; exact hI.ext
  | succ j ih =>
    by_cases hm : m = j + 1
    · rw [← hm]; exact hI.ext
    · have e := ih (by omega) (by omega) fun k h1 h2 => hall k h1 (by omega)
      rcases hall j (by omega) (by omega) with g | g
      · rw [g]; exact e
      · rcases hI.made j (by omega) (by omega) g with q | q
        · rw [q]; exact e
        · exact Ext.absorb hI.inj hI.bd e q

/-- nothing is made, nothing acts -/
theorem Inv.still (hp : Plan P call nt ops F r v H) (hI : Inv P nt ops F r v H ρs ws s m σ a w) {i : Nat} (hi : i < ops.size) (hcl : ∀ k, Nat.testBit (r i) k = true → Lst s k) {u : Value}
    (hne : isE (xsN (P := P) nt ops i) = false) (hH : H (i + 1) = H i) (hv : VR σ (v i) u) (hd : ∀ d, (opN ops i).dst = some d → d < a.tmps.size ∨ VR σ (v i) undef) : Inv P nt ops F r v H ρs ws (s.setIfInBounds i true) m σ (a.put (opN ops i).dst u) w := by
  refine hI.next hp hi hcl hI.mle hI.mact (fun j hj he => ?_) hI.ext (fun j h1 h2 h3 => ?_) (fun k hk => ?_) hI.inj hI.bd (Ren.le_refl _) (Ren.le_refl _) hv hd
  · rw [← hI.acts j hj he]
    constructor
    · rintro (g | rfl)
      · exact g
      · rw [hne] at he; cases he
    · exact .inl
  · rcases h3 with h3 | rfl
    · exact hI.made j h1 h2 h3
    · exact .inl hH
  · rcases hI.pend k hk with h | ⟨j, h1, h2, h3, h4⟩
    · exact .inl h
    · exact .inr ⟨j, h1, h2, .inl h3, h4⟩

theorem MadeAt.keep {σ' : Ren} {w' : World} {j : Nat} (h : MadeAt H ws σ w j) (hle : σ.le σ') (h1 : ∀ b n, σ (H j).next = .live b n → σ' (H j).next = .live b n) (h2 : ∀ b n, σ (H j).next = .live b n → w'.heap[b]? = w.heap[b]?) : MadeAt H ws σ' w' j := by
  obtain ⟨b, n, obj, B, g1, g2, g3, g4, g5⟩ := h
  exact ⟨b, n, obj, B, h1 b n g1, g2, by rw [h2 b n g1]; exact g3, g4, fun ρ' h' w'' hr => g5 ρ' h' w'' (Ren.le_trans (cut_mono hle _) hr)⟩

/-- makes of this place come behind the last act -/
theorem Inv.make_ge (hp : Plan P call nt ops F r v H) (hI : Inv P nt ops F r v H ρs ws s m σ a w) {i : Nat} (_hi : i < ops.size) (hn : ¬ Lst s i) (hq : isE (xsN (P := P) nt ops i) = true ∨ cls (xsN (P := P) nt ops i).op = 2) : m ≤ i := by
  rcases Nat.lt_or_ge i m with g | g
  · exfalso
    rcases hI.mact with h0 | h0
    · omega
    · have hml : m - 1 < ops.size := by have := hI.mle; omega
      have hl : Lst s (m - 1) := (hI.acts (m - 1) hml h0).2 (by omega)
      by_cases him : i = m - 1
      · rw [him] at hn; exact hn hl
      · rcases (hp.pairs (show i < m - 1 by omega) hml).2 with q | ⟨_, _, q⟩
        · exact hn (hI.clos (m - 1) hml hl i q)
        · exact q ⟨h0, hq⟩
  · exact g

theorem Inv.make (hp : Plan P call nt ops F r v H) (hI : Inv P nt ops F r v H ρs ws s m σ a w) {i : Nat} (hi : i < ops.size) (hn : ¬ Lst s i) (hcl : ∀ k, Nat.testBit (r i) k = true → Lst s k) {aop : AOp} (hx : (xsN (P := P) nt ops i).op = .a aop)
    {B : Blk} {mk : Mk} {obj : Obj} {vc : Value} {w' : World} {n : Nat} (hvi : v i = mk.val (H i).next) (hH : H (i + 1) = (H i).new B) (hmore : More w w' obj)
    (h6 : ∀ ρ' j, (σ.cut (H i).next).le ρ' → ρ' j = .live w.heap.size n → VR ρ' (mk.val j) vc) (h7 : ∀ ρ' h' w'', (σ.cut (H i).next).le ρ' → BR ρ' h' w'' n B obj) (hd : ∀ d, (opN ops i).dst = some d → d < a.tmps.size) :
    ∃ σ', Inv P nt ops F r v H ρs ws (s.setIfInBounds i true) m σ' (a.put (opN ops i).dst vc) w' := by
  have hne : isE (xsN (P := P) nt ops i) = false := by unfold isE; rw [hx]; rfl
  have hmi : m ≤ i := hI.make_ge hp hi hn (.inr (by rw [hx]; rfl))
  have hnx : (H (i + 1)).next = (H i).next + 1 := by rw [hH]; rfl
  have hfree : σ (H i).next = .no := by
    rcases hI.pend (H i).next (hp.next_mono hmi (by omega)) with h | ⟨j, h1, h2, h3, h4, h5⟩
    · exact h
    · exfalso
      obtain ⟨b, n, obj, B', _, _, _, g4, _⟩ := h5
      have hjx : (H (j + 1)).next = (H j).next + 1 := by rw [g4]; rfl
      rcases Nat.lt_trichotomy j i with g | g | g
      · have := hp.next_mono (show j + 1 ≤ i by omega) (by omega); omega
      · subst g; exact hn h3
      · have := hp.next_mono (show i + 1 ≤ j by omega) (by omega); omega
  have hle : σ.le (σ.upd (H i).next (.live w.heap.size n)) := Ren.le_upd hfree _
  have hcut : (σ.upd (H i).next (.live w.heap.size n)).cut (H m).next = σ.cut (H m).next := by
    funext k
    unfold Ren.cut
    have := hp.next_mono hmi (show i ≤ ops.size by omega)
    split
    · rw [Ren.upd_ne _ _ (by omega)]
    · rfl
  refine ⟨σ.upd (H i).next (.live w.heap.size n), hI.next hp hi hcl hI.mle hI.mact (fun j hj he => ?_) (by rw [hcut]; exact hI.ext.push hmore) (fun j h1 h2 h3 => ?_) (fun k hk => ?_) (fun p q b k k' g1 g2 => ?_) (fun p b k g1 => ?_) hle (by rw [hcut]; exact Ren.le_refl _) ?_ (fun d hdd => .inl (hd d hdd))⟩
  · rw [← hI.acts j hj he]
    constructor
    · rintro (g | rfl)
      · exact g
      · rw [hne] at he; cases he
    · exact .inl
  · have old : MadeAt H ws σ w j → MadeAt H ws (σ.upd (H i).next (.live w.heap.size n)) w' j := fun h => h.keep hle (fun b k hb => by
      rw [Ren.upd_ne _ _ (fun e => by rw [e, hfree] at hb; cases hb)]; exact hb) (fun b k hb => hmore.other (hI.bd _ b k hb))
    rcases h3 with h3 | rfl
    · exact (hI.made j h1 h2 h3).imp id old
    · exact .inr ⟨w.heap.size, n, obj, B, Ren.upd_same _ _ _, hI.ext.hs, hmore.here, hH, fun ρ' h' w'' hr => h7 ρ' h' w'' (Ren.le_trans (cut_mono hle _) hr)⟩
  · by_cases hki : k = (H i).next
    · subst hki
      exact .inr ⟨i, hmi, hi, .inr rfl, rfl, w.heap.size, n, obj, B, Ren.upd_same _ _ _, hI.ext.hs, hmore.here, hH, fun ρ' h' w'' hr => h7 ρ' h' w'' (Ren.le_trans (cut_mono hle _) hr)⟩
    · rw [Ren.upd_ne _ _ hki]
      rcases hI.pend k hk with h | ⟨j, h1, h2, h3, h4, h5⟩
      · exact .inl h
      · exact .inr ⟨j, h1, h2, .inl h3, h4, h5.keep hle (fun b k' hb => by
          rw [Ren.upd_ne _ _ (fun e => by rw [e, hfree] at hb; cases hb)]; exact hb) (fun b k' hb => hmore.other (hI.bd _ b k' hb))⟩
  · by_cases hpi : p = (H i).next
    · by_cases hqi : q = (H i).next
      · rw [hpi, hqi]
      · subst hpi
        rw [Ren.upd_same] at g1
        rw [Ren.upd_ne _ _ hqi] at g2
        simp only [Slot.live.injEq] at g1
        have := hI.bd _ _ _ g2; omega
    · by_cases hqi : q = (H i).next
      · subst hqi
        rw [Ren.upd_same] at g2
        rw [Ren.upd_ne _ _ hpi] at g1
        simp only [Slot.live.injEq] at g2
        have := hI.bd _ _ _ g1; omega
      · rw [Ren.upd_ne _ _ hpi] at g1
        rw [Ren.upd_ne _ _ hqi] at g2
        exact hI.inj p q b k k' g1 g2
  · rw [hmore.size]
    by_cases hpi : p = (H i).next
    · subst hpi
      rw [Ren.upd_same] at g1
      simp only [Slot.live.injEq] at g1; omega
    · rw [Ren.upd_ne _ _ hpi] at g1
      have := hI.bd _ _ _ g1; omega
  · rw [hvi]
    exact h6 _ _ (Ren.le_trans (cut_le_self σ _) hle) (Ren.upd_same _ _ _)

/-- an act gets its turn -/
theorem Inv.act (hp : Plan P call nt ops F r v H) (hls : Lim ρs (H 0)) (hI : Inv P nt ops F r v H ρs ws s m σ a w) {i : Nat} (hi : i < ops.size) (hn : ¬ Lst s i) (hcl : ∀ k, Nat.testBit (r i) k = true → Lst s k) (hE : isE (xsN (P := P) nt ops i) = true)
    (e1 : Ext ρs (σ.cut (H i).next) (H 0) (H i) ws w) {ρ' : Ren} {w' : World} {u : Value} (hv : VR ρ' (v i) u) (e2 : Ext (σ.cut (H i).next) ρ' (H i) (H (i + 1)) w w') (hd : ∀ d, (opN ops i).dst = some d → d < a.tmps.size ∨ VR ρ' (v i) undef) :
    ∃ σ', Inv P nt ops F r v H ρs ws (s.setIfInBounds i true) (i + 1) σ' (a.put (opN ops i).dst u) w' := by
  have hmi : m ≤ i := hI.make_ge hp hi hn (.inl hE)
  have hnx := hp.next_le hi
  let σ' : Ren := fun k => if k < (H (i + 1)).next then ρ' k else σ k
  have lo : ∀ k, k < (H (i + 1)).next → σ' k = ρ' k := fun k hk => by simp only [σ']; rw [if_pos hk]
  have up : ∀ k, (H (i + 1)).next ≤ k → σ' k = σ k := fun k hk => by simp only [σ']; rw [if_neg (by omega)]
  have hcut : σ'.cut (H (i + 1)).next = ρ' := by
    funext k
    unfold Ren.cut
    split
    · rename_i h; exact lo k h
    · rename_i h; exact (e2.lim k (by omega)).symm
  -- what waits
  have wait : ∀ k b n, (H i).next ≤ k → σ k = .live b n → ∃ j, i + 1 ≤ j ∧ j < ops.size ∧ Lst s j ∧ k = (H j).next ∧ MadeAt H ws σ w j ∧ (H (i + 1)).next ≤ k := fun k b n hk hl => by
    rcases hI.pend k (Nat.le_trans (hp.next_mono hmi (by omega)) hk) with h | ⟨j, h1, h2, h3, h4, h5⟩
    · rw [h] at hl; cases hl
    · have hji : j ≠ i := fun e => hn (e ▸ h3)
      have hij : i + 1 ≤ j := by
        rcases Nat.lt_or_ge j i with g | g
        · exfalso
          obtain ⟨_, _, _, _, _, _, _, g4, _⟩ := h5
          have : (H (j + 1)).next = (H j).next + 1 := by rw [g4]; rfl
          have := hp.next_mono (show j + 1 ≤ i by omega) (by omega)
          omega
        · omega
      exact ⟨j, hij, h2, h3, h4, h5, by rw [h4]; exact hp.next_mono hij (by omega)⟩
  have hle : σ.le σ' := by
    constructor
    · intro k b n hk
      rcases Nat.lt_or_ge k (H i).next with g | g
      · have h1 : σ.cut (H i).next k = .live b n := by rw [Ren.cut_lt _ g]; exact hk
        rw [lo k (by omega)]
        exact e2.le.1 k b n h1
      · obtain ⟨_, _, _, _, _, _, h7⟩ := wait k b n g hk
        exact .inl (by rw [up k h7]; exact hk)
    · intro k hk
      rcases Nat.lt_or_ge k (H i).next with g | g
      · have h1 : σ.cut (H i).next k = .dead := by rw [Ren.cut_lt _ g]; exact hk
        rw [lo k (by omega)]
        exact e2.le.2 k h1
      · rcases hI.pend k (Nat.le_trans (hp.next_mono hmi (by omega)) g) with h | ⟨j, _, _, _, h4, h5⟩
        · rw [h] at hk; cases hk
        · obtain ⟨b, n, _, _, g1, _⟩ := h5
          rw [← h4] at g1
          rw [g1] at hk; cases hk
  have hle' : ρ'.le σ' := by
    constructor
    · intro k b n hk; exact .inl (by rw [lo k (e2.lim.lt hk)]; exact hk)
    · intro k hk
      have : k < (H (i + 1)).next := by
        rcases Nat.lt_or_ge k (H (i + 1)).next with g | g
        · exact g
        · rw [e2.lim k g] at hk; cases hk
      rw [lo k this]; exact hk
  -- the blocks of what waits
  have clear : ∀ k b n, (H (i + 1)).next ≤ k → σ k = .live b n → b < w.heap.size ∧ w'.heap[b]? = w.heap[b]? ∧ ∀ k' n', ρ' k' ≠ .live b n' := fun k b n hk hl => by
    have hb := hI.bd k b n hl
    have hnot : ∀ k' n', σ.cut (H i).next k' ≠ .live b n' := fun k' n' h => by
      unfold Ren.cut at h
      split at h
      · have := hI.inj k' k b n' n h hl; omega
      · cases h
    refine ⟨hb, e2.fr b hb fun k' n' h => absurd h (hnot k' n'), fun k' n' h => ?_⟩
    rcases e2.nw k' b n' h with g | ⟨_, g | ⟨j, m', g, _⟩⟩
    · exact hnot k' n' g
    · omega
    · exact hnot j m' g
  have keepM : ∀ j, i + 1 ≤ j → j < ops.size → MadeAt H ws σ w j → MadeAt H ws σ' w' j := fun j h1 h2 h => by
    have hk := hp.next_mono h1 (show j ≤ ops.size by omega)
    exact h.keep hle (fun b n hb => by rw [up _ hk]; exact hb) (fun b n hb => (clear _ b n hk hb).2.1)
  refine ⟨σ', hI.next hp hi hcl (by omega) (.inr (by simpa using hE)) (fun j hj he => ?_) (by rw [hcut]; exact e1.trans hls e2) (fun j h1 h2 h3 => ?_) (fun k hk => ?_) (fun p q b n n' g1 g2 => ?_) (fun p b n g1 => ?_) hle (by rw [hcut]; exact Ren.le_trans (cut_le σ (hp.next_mono hmi (by omega))) e2.le) (hv.mono hle') (fun d hdd => (hd d hdd).imp id fun h => h.mono hle')⟩
  · constructor
    · rintro (g | rfl)
      · have := (hI.acts j hj he).1 g; omega
      · omega
    · intro g
      by_cases hji : j = i
      · exact .inr hji
      · rcases (hp.pairs (show j < i by omega) hi).2 with q | ⟨_, _, q⟩
        · exact .inl (hcl j q)
        · exact absurd ⟨hE, .inl he⟩ q
  · rcases h3 with h3 | rfl
    · exact (hI.made j (by omega) h2 h3).imp id (keepM j h1 h2)
    · omega
  · rw [up k hk]
    cases hσ : σ k with
    | no => exact .inl rfl
    | dead =>
      rcases hI.pend k (Nat.le_trans (hp.next_mono (show m ≤ i + 1 by omega) (by omega)) hk) with h | ⟨j, _, _, _, h4, h5⟩
      · rw [h] at hσ; cases hσ
      · obtain ⟨b, n, _, _, g1, _⟩ := h5
        rw [← h4] at g1
        rw [g1] at hσ; cases hσ
    | live b n =>
      obtain ⟨j, h1, h2, h3, h4, h5, _⟩ := wait k b n (by omega) hσ
      exact .inr ⟨j, h1, h2, .inl h3, h4, keepM j h1 h2 h5⟩
  · rcases Nat.lt_or_ge p (H (i + 1)).next with hp1 | hp1
    · rw [lo p hp1] at g1
      rcases Nat.lt_or_ge q (H (i + 1)).next with hq1 | hq1
      · rw [lo q hq1] at g2
        exact e2.wr.inj p q b n n' g1 g2
      · rw [up q hq1] at g2
        exact absurd g1 ((clear q b n' hq1 g2).2.2 p n)
    · rw [up p hp1] at g1
      rcases Nat.lt_or_ge q (H (i + 1)).next with hq1 | hq1
      · rw [lo q hq1] at g2
        exact absurd g2 ((clear p b n hp1 g1).2.2 q n')
      · rw [up q hq1] at g2
        exact hI.inj p q b n n' g1 g2
  · rcases Nat.lt_or_ge p (H (i + 1)).next with hp1 | hp1
    · rw [lo p hp1] at g1
      exact e2.wr.bd p b n g1
    · rw [up p hp1] at g1
      exact Nat.lt_of_lt_of_le (clear p b n hp1 g1).1 e2.hs
end
end Hx
