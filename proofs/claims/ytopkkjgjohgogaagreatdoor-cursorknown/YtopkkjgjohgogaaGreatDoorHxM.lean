/- The evaluator: maps that are changed. -/
import Derived.Test.YtopkkjgjohgogaaGreatDoorHxL
namespace Hx
open Go

section
variable {P : Program}

theorem MR.get {ρ : Ren} : ∀ {es : List (AV × AV)} {ces : List MapEntry}, MR ρ es ces → ∀ {j : Nat} {e : MapEntry}, ces[j]? = some e → ∃ q v, es[j]? = some (q, v) ∧ VR ρ q e.key ∧ VR ρ v e.val
  | [], _, h, j, e, he => by cases h; simp at he
  | _ :: _, _, h, 0, e, he => by
    cases h with
    | cons k v e' l es hk hv t =>
      have : e' = e := by simpa using he
      subst this
      exact ⟨k, v, rfl, hk, hv⟩
  | _ :: _, _, h, j + 1, e, he => by
    cases h with
    | cons k v e' l es hk hv t =>
      exact MR.get t (by simpa using he)

theorem MR.append {ρ : Ren} : ∀ {es : List (AV × AV)} {ces : List MapEntry}, MR ρ es ces → ∀ {fs : List (AV × AV)} {cfs : List MapEntry}, MR ρ fs cfs → MR ρ (es ++ fs) (ces ++ cfs)
  | [], _, h, _, _, g => by cases h; exact g
  | _ :: _, _, h, _, _, g => by
    cases h with
    | cons k v e l es hk hv t => exact .cons _ _ _ _ _ hk hv (MR.append t g)

theorem putK_cons (kc : KC) (k v : AV) (e : AV × AV) (es : List (AV × AV)) : putK kc k v (e :: es) = (match keyEq kc k e.1 with | some true => (k, v) :: es | _ => e :: putK kc k v es) := rfl
theorem delK_cons (kc : KC) (k : AV) (e : AV × AV) (es : List (AV × AV)) : delK kc k (e :: es) = (match keyEq kc k e.1 with | some true => es | _ => e :: delK kc k es) := rfl

theorem putK_new {kc : KC} {k v : AV} : ∀ {es : List (AV × AV)}, (∀ e ∈ es, keyEq kc k e.1 = some false) → putK kc k v es = es ++ [(k, v)]
  | [], _ => rfl
  | e :: es, h => by
    rw [putK_cons, h e (by simp)]
    simp only [List.cons_append]
    rw [putK_new fun x hx => h x (by simp [hx])]
theorem delK_new {kc : KC} {k : AV} : ∀ {es : List (AV × AV)}, (∀ e ∈ es, keyEq kc k e.1 = some false) → delK kc k es = es
  | [], _ => rfl
  | e :: es, h => by
    rw [delK_cons, h e (by simp)]
    simp only
    rw [delK_new fun x hx => h x (by simp [hx])]

theorem putK_old {ρ : Ren} {kc : KC} {k v : AV} {u x : Value} (hk : VR ρ k u) (hv : VR ρ v x) : ∀ {es : List (AV × AV)} {ces : List MapEntry} {j : Nat} {e : MapEntry} {q y : AV}, MR ρ es ces → ces[j]? = some e → es[j]? = some (q, y) → keyEq kc k q = some true →
    (∀ j', j' < j → ∀ x, es[j']? = some x → keyEq kc k x.1 = some false) → MR ρ (putK kc k v es) (ces.modify j fun e => { e with key := u, val := x })
  | [], _, j, e, q, y, h, he, _, _, _ => by cases h; simp at he
  | z :: es, _, 0, e, q, y, h, he, hq, heq, _ => by
    cases h with
    | cons k' v' e' l es hk' hv' t =>
      have : (k', v') = (q, y) := by simpa using hq
      obtain ⟨rfl, rfl⟩ := Prod.mk.injEq .. ▸ this
      rw [putK_cons]
      simp only [heq, List.modify_zero_cons]
      exact .cons _ _ _ _ _ hk hv t
  | z :: es, _, j + 1, e, q, y, h, he, hq, heq, hno => by
    cases h with
    | cons k' v' e' l es hk' hv' t =>
      rw [putK_cons]
      have h0 := hno 0 (by omega) (k', v') rfl
      simp only at h0
      simp only [h0, List.modify_succ_cons]
      exact .cons _ _ _ _ _ hk' hv' (putK_old hk hv t (by simpa using he) (by simpa using hq) heq fun j' hj' x hx => hno (j' + 1) (by omega) x (by simpa using hx))

theorem delK_old {ρ : Ren} {kc : KC} {k : AV} : ∀ {es : List (AV × AV)} {ces : List MapEntry} {j : Nat} {e : MapEntry} {q y : AV}, MR ρ es ces → ces[j]? = some e → es[j]? = some (q, y) → keyEq kc k q = some true →
    (∀ j', j' < j → ∀ x, es[j']? = some x → keyEq kc k x.1 = some false) → MR ρ (delK kc k es) (ces.eraseIdx j)
  | [], _, j, e, q, y, h, he, _, _, _ => by cases h; simp at he
  | z :: es, _, 0, e, q, y, h, he, hq, heq, _ => by
    cases h with
    | cons k' v' e' l es hk' hv' t =>
      have : (k', v') = (q, y) := by simpa using hq
      obtain ⟨rfl, rfl⟩ := Prod.mk.injEq .. ▸ this
      rw [delK_cons]
      simp only [heq, List.eraseIdx_cons_zero]
      exact t
  | z :: es, _, j + 1, e, q, y, h, he, hq, heq, hno => by
    cases h with
    | cons k' v' e' l es hk' hv' t =>
      rw [delK_cons]
      have h0 := hno 0 (by omega) (k', v') rfl
      simp only at h0
      simp only [h0, List.eraseIdx_cons_succ]
      exact .cons _ _ _ _ _ hk' hv' (delK_old t (by simpa using he) (by simpa using hq) heq fun j' hj' x hx => hno (j' + 1) (by omega) x (by simpa using hx))

theorem putK_hit {kc : KC} {k v : AV} {e : AV × AV} {es : List (AV × AV)} (h : keyEq kc k e.1 = some true) : putK kc k v (e :: es) = (k, v) :: es := by rw [putK_cons, h]
theorem putK_miss {kc : KC} {k v : AV} {e : AV × AV} {es : List (AV × AV)} (h : ¬ keyEq kc k e.1 = some true) : putK kc k v (e :: es) = e :: putK kc k v es := by
  rw [putK_cons]
  split
  · rename_i q; exact absurd q h
  · rfl
theorem delK_hit {kc : KC} {k : AV} {e : AV × AV} {es : List (AV × AV)} (h : keyEq kc k e.1 = some true) : delK kc k (e :: es) = es := by rw [delK_cons, h]
theorem delK_miss {kc : KC} {k : AV} {e : AV × AV} {es : List (AV × AV)} (h : ¬ keyEq kc k e.1 = some true) : delK kc k (e :: es) = e :: delK kc k es := by
  rw [delK_cons]
  split
  · rename_i q; exact absurd q h
  · rfl
theorem putK_perm {kc : KC} {k v : AV} {es es' : List (AV × AV)} (hp : es'.Perm es) : okK es → (putK kc k v es').Perm (putK kc k v es) := by
  induction hp with
  | nil => intro _; exact List.Perm.refl _
  | @cons x l1 l2 p ih =>
    intro ho
    rw [putK_cons, putK_cons]
    split
    · exact p.cons _
    · exact (ih ho.tail).cons _
  | swap x y l =>
    intro ho
    obtain ⟨n, hn⟩ := ho.1 x (by simp)
    obtain ⟨m, hm⟩ := ho.1 y (by simp)
    have hne : x.1 ≠ y.1 := fun q => (List.nodup_cons.1 (show ((x.1 :: y.1 :: l.map (·.1)).Nodup) from ho.2)).1 (by rw [q]; simp)
    have two : ¬ (keyEq kc k x.1 = some true ∧ keyEq kc k y.1 = some true) := fun ⟨h1, h2⟩ => by
      rw [hn] at h1
      rw [hm] at h2
      obtain ⟨p, _, rfl, h3⟩ := keyEq_int h1
      obtain ⟨q, _, h4, h5⟩ := keyEq_int h2
      simp only [AV.int.injEq, true_and] at h4
      subst h4
      rw [eqI_eq] at h3 h5
      have h3 : p = n := by simpa using h3.symm
      have h5 : p = m := by simpa using h5.symm
      exact hne (by rw [hn, hm, ← h3, ← h5])
    by_cases hx : keyEq kc k x.1 = some true
    · have hy : ¬ keyEq kc k y.1 = some true := fun h => two ⟨hx, h⟩
      rw [putK_miss hy, putK_hit hx, putK_hit hx]
      exact List.Perm.swap _ _ _
    · by_cases hy : keyEq kc k y.1 = some true
      · rw [putK_hit hy, putK_miss hx, putK_hit hy]
        exact List.Perm.swap _ _ _
      · rw [putK_miss hy, putK_miss hx, putK_miss hx, putK_miss hy]
        exact List.Perm.swap _ _ _
  | trans p q ih1 ih2 => intro ho; exact (ih1 (ho.perm q.symm)).trans (ih2 ho)

theorem delK_perm {kc : KC} {k : AV} {es es' : List (AV × AV)} (hp : es'.Perm es) : okK es → (delK kc k es').Perm (delK kc k es) := by
  induction hp with
  | nil => intro _; exact List.Perm.refl _
  | @cons x l1 l2 p ih =>
    intro ho
    rw [delK_cons, delK_cons]
    split
    · exact p
    · exact (ih ho.tail).cons _
  | swap x y l =>
    intro ho
    obtain ⟨n, hn⟩ := ho.1 x (by simp)
    obtain ⟨m, hm⟩ := ho.1 y (by simp)
    have hne : x.1 ≠ y.1 := fun q => (List.nodup_cons.1 (show ((x.1 :: y.1 :: l.map (·.1)).Nodup) from ho.2)).1 (by rw [q]; simp)
    have two : ¬ (keyEq kc k x.1 = some true ∧ keyEq kc k y.1 = some true) := fun ⟨h1, h2⟩ => by
      rw [hn] at h1
      rw [hm] at h2
      obtain ⟨p, _, rfl, h3⟩ := keyEq_int h1
      obtain ⟨q, _, h4, h5⟩ := keyEq_int h2
      simp only [AV.int.injEq, true_and] at h4
      subst h4
      rw [eqI_eq] at h3 h5
      have h3 : p = n := by simpa using h3.symm
      have h5 : p = m := by simpa using h5.symm
      exact hne (by rw [hn, hm, ← h3, ← h5])
    by_cases hx : keyEq kc k x.1 = some true
    · have hy : ¬ keyEq kc k y.1 = some true := fun h => two ⟨hx, h⟩
      rw [delK_miss hy, delK_hit hx, delK_hit hx]
    · by_cases hy : keyEq kc k y.1 = some true
      · rw [delK_hit hy, delK_miss hx, delK_hit hy]
      · rw [delK_miss hy, delK_miss hx, delK_miss hx, delK_miss hy]
        exact List.Perm.swap _ _ _
  | trans p q ih1 ih2 => intro ho; exact (ih1 (ho.perm q.symm)).trans (ih2 ho)

theorem delK_sub {kc : KC} {k : AV} : ∀ (es : List (AV × AV)), (delK kc k es).Sublist es
  | [] => List.Sublist.refl _
  | e :: es => by
    rw [delK_cons]
    split
    · exact List.sublist_cons_self _ _
    · exact (delK_sub es).cons_cons _
theorem okK.sub {a b : List (AV × AV)} (h : okK b) (s : a.Sublist b) : okK a := ⟨fun e he => h.1 e (s.subset he), (s.map _).nodup h.2⟩
theorem putK_keys {kc : KC} {k v : AV} : ∀ (es : List (AV × AV)), (∀ e ∈ es, ∃ n, e.1 = AV.int .i64 n) → (putK kc k v es).map (·.1) = es.map (·.1) ∨ (∀ e ∈ es, keyEq kc k e.1 ≠ some true) ∧ (putK kc k v es).map (·.1) = es.map (·.1) ++ [k]
  | [], _ => .inr ⟨by simp, rfl⟩
  | e :: es, hk => by
    rw [putK_cons]
    split
    · rename_i h
      obtain ⟨n, hn⟩ := hk e (by simp)
      rw [hn] at h
      obtain ⟨p, _, rfl, h3⟩ := keyEq_int h
      rw [eqI_eq] at h3
      have h3 : p = n := by simpa using h3.symm
      subst h3
      left
      simp [hn]
    · rename_i h
      rcases putK_keys (kc := kc) (k := k) (v := v) es (fun x hx => hk x (by simp [hx])) with g | ⟨g1, g2⟩
      · left; simp [g]
      · right
        refine ⟨fun x hx => ?_, by simp [g2]⟩
        rcases List.mem_cons.1 hx with rfl | hx
        · exact fun q => h q
        · exact g1 x hx
theorem okK.put {kc : KC} {k v : AV} {es : List (AV × AV)} {r : Option AV} (ho : okK es) (hne : es ≠ []) (hf : findK kc k es = some r) : okK (putK kc k v es) := by
  cases es with
  | nil => exact absurd rfl hne
  | cons e l =>
    obtain ⟨p, rfl, rfl⟩ := findK_some ho hf
    have keys : ∀ ks : List AV, (∀ x ∈ ks, ∃ n, x = AV.int .i64 n) → ∀ (a : List (AV × AV)), a.map (·.1) = ks → ∀ e ∈ a, ∃ n, e.1 = AV.int .i64 n := fun ks hks a ha e he => hks e.1 (by rw [← ha]; exact List.mem_map_of_mem he)
    rcases putK_keys (kc := .sc .i) (k := .int .i64 p) (v := v) (e :: l) ho.1 with g | ⟨g1, g2⟩
    · refine ⟨keys _ (fun x hx => ?_) _ g, by rw [g]; exact ho.2⟩
      obtain ⟨q, hq, rfl⟩ := List.mem_map.1 hx
      exact ho.1 q hq
    · refine ⟨keys _ (fun x hx => ?_) _ g2, ?_⟩
      · rcases List.mem_append.1 hx with hx | hx
        · obtain ⟨q, hq, rfl⟩ := List.mem_map.1 hx
          exact ho.1 q hq
        · exact ⟨p, List.mem_singleton.1 hx⟩
      · rw [g2]
        refine List.nodup_append.2 ⟨ho.2, by simp, fun x hx y hy => ?_⟩
        rw [List.mem_singleton.1 hy]
        rintro rfl
        obtain ⟨q, hq, hq2⟩ := List.mem_map.1 hx
        refine g1 q hq ?_
        rw [hq2, keyEq_ii, eqI_eq]
        simp
/-- the entries behind a change -/
theorem MRp.put {ρ : Ren} {kc : KC} {k v : AV} {es es' : List (AV × AV)} {ces : List MapEntry} {r : Option AV} (hp : es' = es ∨ (es'.Perm es ∧ okK es)) (hf : findK kc k es = some r) (h : MR ρ (putK kc k v es') ces) : MRp ρ (putK kc k v es) ces := by
  refine ⟨_, h, ?_⟩
  rcases hp with rfl | ⟨hp, ho⟩
  · exact .inl rfl
  · by_cases hne : es = []
    · subst hne; rw [hp.eq_nil]; exact .inl rfl
    · exact .inr ⟨putK_perm hp ho, ho.put hne hf⟩
theorem MRp.del {ρ : Ren} {kc : KC} {k : AV} {es es' : List (AV × AV)} {ces : List MapEntry} (hp : es' = es ∨ (es'.Perm es ∧ okK es)) (h : MR ρ (delK kc k es') ces) : MRp ρ (delK kc k es) ces := by
  refine ⟨_, h, ?_⟩
  rcases hp with rfl | ⟨hp, ho⟩
  · exact .inl rfl
  · exact .inr ⟨delK_perm hp ho, ho.sub (delK_sub es)⟩
theorem stayK_p {kc : KC} {k : AV} {es es' : List (AV × AV)} {r : Option AV} (hp : es' = es ∨ (es'.Perm es ∧ okK es)) (hf : findK kc k es = some r) (h : stayK kc k es = true) : stayK kc k es' = true := by
  rcases hp with rfl | ⟨hp, ho⟩
  · exact h
  · cases es with
    | nil => rw [hp.eq_nil]; exact h
    | cons e l =>
      obtain ⟨p, rfl, rfl⟩ := findK_some ho hf
      rfl

/-- one cell's value of a plain kind -/
def plain1 (v : Value) : Prop := (∃ b, v = .bool b) ∨ (∃ k n, v = .int k n) ∨ ∃ s, v = .string s
theorem plain_same {v : Value} (h : plain1 v) (n : Nat) : Instr.sameBits n v v = true := by
  rcases h with ⟨b, rfl⟩ | ⟨k, m, rfl⟩ | ⟨s, rfl⟩ <;> cases n <;> simp [Instr.sameBits, beqS]

theorem str_inj {x y : ByteArray} (h : x.data.toList.map UInt8.toNat = y.data.toList.map UInt8.toNat) : x = y := by
  have h1 := bytes_eq.1 h
  exact ByteArray.ext (Array.ext' h1)

theorem sameL_cons (x : AV) (a : List AV) (y : AV) (b : List AV) : sameL (x :: a) (y :: b) = (match ((match x, y with | .bool p, .bool q => eqB p q | .int k p, .int k' q => eqK k k' && eqI p q | .str p, .str q => eqN p q | _, _ => false) && sameL a b : Bool) with | true => true | false => false) := by
  have : ∀ c : Bool, c = (match c with | true => true | false => false) := by decide
  rw [← this]; rfl

theorem sameL_ok {ρ : Ren} : ∀ {a b : List AV} {us vs : List Value}, VRs ρ a us → VRs ρ b vs → sameL a b = true → us = vs ∧ ∀ u ∈ us, plain1 u
  | [], b, _, _, ha, hb, h => by
    cases ha
    cases hb with
    | nil => exact ⟨rfl, by simp⟩
    | cons => cases h
  | x :: a, [], _, _, ha, hb, h => by cases h
  | x :: a, y :: b, _, _, ha, hb, h => by
    cases ha with
    | cons _ u _ us hu ha =>
      cases hb with
      | cons _ v _ vs hv hb =>
        rw [sameL_cons] at h
        split at h
        · rename_i h0
          simp only [Bool.and_eq_true] at h0
          obtain ⟨h1, h2⟩ := h0
          obtain ⟨rfl, g⟩ := sameL_ok ha hb h2
          have key : u = v ∧ plain1 u := by
            split at h1
            · cases hu; cases hv
              rw [eqB_eq] at h1
              simp only [beq_iff_eq] at h1
              subst h1
              exact ⟨rfl, .inl ⟨_, rfl⟩⟩
            · cases hu; cases hv
              rw [eqK_eq, eqI_eq] at h1
              simp only [Bool.and_eq_true, decide_eq_true_eq, beq_iff_eq] at h1
              obtain ⟨rfl, rfl⟩ := h1
              exact ⟨rfl, .inr (.inl ⟨_, _, rfl⟩)⟩
            · cases hu with
              | str _ s hs =>
                cases hv with
                | str _ t ht =>
                  rw [eqN_iff] at h1
                  simp only [decide_eq_true_eq] at h1
                  subst h1
                  have := str_inj (hs.trans ht.symm)
                  subst this
                  exact ⟨rfl, .inr (.inr ⟨_, rfl⟩)⟩
            · cases h1
          obtain ⟨rfl, hp⟩ := key
          exact ⟨rfl, fun z hz => by rcases List.mem_cons.1 hz with rfl | hz; exact hp; exact g z hz⟩
        · cases h

theorem stay_ok {ρ : Ren} {kc : KC} {k q : AV} {u v : Value} (hk : VR ρ k u) (hq : VR ρ q v) (h : keyEq kc k q = some true) (hs : ∀ o, kc = .ag o → sameAg k q = true) : Instr.sameBits 10000 v u = true := by
  cases kc with
  | sc c =>
    have h : eq1 c k q = some true := h
    rcases eq1_shape hk hq h with ⟨rfl, p, q, rfl, rfl, hb⟩ | ⟨rfl, k, p, q, rfl, rfl, hb⟩ | ⟨rfl, p, q, rfl, rfl, hb⟩
    · have : p = q := by simpa using hb.symm
      subst this
      exact plain_same (.inl ⟨_, rfl⟩) _
    · have : p = q := by simpa using hb.symm
      subst this
      exact plain_same (.inr (.inl ⟨_, _, rfl⟩)) _
    · have h0 : p.toList = q.toList := by simpa using hb.symm
      have : p = q := by
        rw [ByteArray.toList_eq, ByteArray.toList_eq] at h0
        exact ByteArray.ext (Array.ext' h0)
      subst this
      exact plain_same (.inr (.inr ⟨_, rfl⟩)) _
  | ag o =>
    have h1 := hs o rfl
    unfold sameAg at h1
    split at h1
    · cases hk with
      | agg _ xs h2 =>
        cases hq with
        | agg _ ys h3 =>
          obtain ⟨h4, h5⟩ := sameL_ok h2 h3 h1
          have : xs = ys := Array.ext' h4
          subst this
          rw [Instr.sameBits]
          simp only [beq_self_eq_true, Bool.true_and, List.all_eq_true]
          intro p hp
          have : p.1 = p.2 ∧ p.1 ∈ xs.toList := by
            obtain ⟨i, hi, rfl⟩ := List.mem_iff_getElem.1 hp
            simp
          obtain ⟨x, y⟩ := p
          obtain ⟨e, hm⟩ := this
          simp only at e hm
          subst e
          exact plain_same (h5 _ hm) _
    · cases h1

theorem stayK_get {o : List (Nat × SC)} {k : AV} : ∀ {es : List (AV × AV)} {j : Nat} {q y : AV}, stayK (.ag o) k es = true → es[j]? = some (q, y) → keyEq (.ag o) k q = some true → (∀ j', j' < j → ∀ x, es[j']? = some x → keyEq (.ag o) k x.1 = some false) →
    sameAg k q = true
  | [], j, q, y, _, h, _, _ => by simp at h
  | e :: es, j, q, y, hs, h, hq, hno => by
    have hs : (match keyEq (.ag o) k e.1 with
      | some true => sameAg k e.1
      | _ => stayK (.ag o) k es) = true := hs
    cases j with
    | zero =>
      have : e = (q, y) := by simpa using h
      subst this
      simp only [hq] at hs
      exact hs
    | succ j =>
      have h0 := hno 0 (by omega) e rfl
      rw [h0] at hs
      exact stayK_get hs (by simpa using h) hq fun j' hj' x hx => hno (j' + 1) (by omega) x (by simpa using hx)

theorem setObj_at {w : World} {b : Nat} {o o' : Obj} (ho : w.heap[b]? = some o) (hn : ∀ c e f, o ≠ .cells c e f) : ∃ w', (setObj b o').run P w = .ok () w' ∧ At w w' b o' := by
  have hb : b < w.heap.size := by
    rcases Nat.lt_or_ge b w.heap.size with g | g
    · exact g
    · rw [Array.getElem?_eq_none g] at ho; cases ho
  refine ⟨{ w with heap := w.heap.setIfInBounds b o' }, ?_, ?_, fun c hc => ?_, by simp, rfl, rfl, rfl⟩
  · unfold setObj
    simp only [Sem.run, ho]
  · show (w.heap.setIfInBounds b o')[b]? = _
    rw [Array.getElem?_setIfInBounds, if_pos rfl, if_pos hb]
  · show (w.heap.setIfInBounds b o')[c]? = _
    rw [Array.getElem?_setIfInBounds, if_neg (fun e => hc e.symm)]

/-- a map's block -/
theorem WR.map {ρ : Ren} {h : Hp} {w : World} (hw : WR ρ h w) {u : Value} {r : Nat} {es : List (AV × AV)} {n : Nat} (hm : VR ρ (.map r) u) (hr : h.t.get r = some (.map es n)) :
    ∃ b N ces clock, u = .map (some b) ∧ ρ r = .live b N ∧ w.heap[b]? = some (.map ces clock) ∧ MRp ρ es ces.toList ∧ (∀ e ∈ ces.toList, e.born < clock) ∧ ces.toList.Pairwise (fun a b => a.born < b.born) := by
  cases hm with
  | mapd _ _ hd => exact absurd (hw.dead r _ hd hr) (by simp)
  | map _ b N hl =>
    obtain ⟨o, ho, ces, clock, rfl, h1, h2, h3⟩ := hw.blk r b N _ hl hr
    exact ⟨b, N, ces, clock, rfl, hl, ho, h1, h2, h3⟩

theorem mup_ok {ρ : Ren} {h : Hp} {w : World} (hw : WR ρ h w) (hlm : Lim ρ h) {t kt et : Nat} {kc : KC} {m k x v : AV} {um uk ux : Value} {h' : Hp} (hu : P.underlying t = some (.map kt et)) (hkc : keyC P kt = some kc)
    (hm : VR ρ m um) (hk : VR ρ k uk) (hx : VR ρ x ux) (hv : mupV kc m k x h = .ok v h') : ∃ w', (Instr.mapUpdate t um uk ux).run P w = .ok () w' ∧ v = .tup [] ∧ Ext ρ ρ h h' w w' := by
  unfold mupV at hv
  split at hv
  · rename_i r
    split at hv
    · rename_i es n hr
      split at hv
      · rename_i res hf
        cases hq : (keyOk kc k && stayK kc k es) with
        | false => rw [hq] at hv; cases hv
        | true =>
          rw [hq] at hv
          simp only [cond_true, Res.ok.injEq] at hv
          obtain ⟨rfl, rfl⟩ := hv
          simp only [Bool.and_eq_true] at hq
          obtain ⟨b, N, ces, clock, rfl, hl, ho, ⟨es', hmr, hpp⟩, hborn, hpw⟩ := hw.map hm hr
          have hf' := findK_p hpp hf
          have hst' := stayK_p hpp hf hq.2
          have hck := checkKey_ok hkc hk hq.1 false w
          have hgo : (getObj b).run P w = .ok (.map ces clock) w := getObj_ok ho (by simp)
          rcases findKey_ok hkc hk w es' ces.toList res hmr hf' with ⟨rfl, hrun, hno⟩ | ⟨j, y, e, q, rfl, hrun, hej, hye, hqj, hqt, hno⟩
          · obtain ⟨w', hs, hat⟩ := setObj_at (P := P) (o' := .map (ces.push { key := uk, val := ux, born := clock }) (clock + 1)) ho (by simp)
            refine ⟨w', ?_, rfl, Ext.put hw hlm hl hr (by simp) hat ⟨_, _, rfl, MRp.put hpp hf ?_, fun e he => ?_, ?_⟩ (fun es' m' e => by cases e; exact ⟨_, _, rfl, Nat.lt_succ_self _⟩)⟩
            · unfold Instr.mapUpdate
              simp only [Sem.run_bind, run_underlying hu, Result.andThen_ok, hgo, hck, hrun, hs]
            · rw [putK_new hno, Array.toList_push]
              exact hmr.append (.cons _ _ _ _ _ hk hx .nil)
            · rw [Array.toList_push] at he
              rcases List.mem_append.1 he with he | he
              · have := hborn e he; omega
              · rw [List.mem_singleton.1 he]; exact Nat.lt_succ_self _
            · rw [Array.toList_push]
              exact List.pairwise_append.2 ⟨hpw, List.pairwise_singleton _ _, fun x hx y hy => by rw [List.mem_singleton.1 hy]; exact hborn x hx⟩
          · have hcj : ces[j]? = some e := by rw [← Array.getElem?_toList]; exact hej
            obtain ⟨q', y', g1, g2, g3⟩ := hmr.get hej
            rw [hqj] at g1
            simp only [Option.some.injEq, Prod.mk.injEq] at g1
            obtain ⟨rfl, rfl⟩ := g1
            have hsame := stay_ok hk g2 hqt (fun o ho => by subst ho; exact stayK_get hst' hqj hqt hno)
            obtain ⟨w', hs, hat⟩ := setObj_at (P := P) (o' := .map (ces.modify j fun e => { e with key := uk, val := ux }) clock) ho (by simp)
            refine ⟨w', ?_, rfl, Ext.put hw hlm hl hr (by simp) hat ⟨_, _, rfl, MRp.put hpp hf ?_, fun e he => ?_, ?_⟩ (fun es' m' e => by cases e; exact ⟨_, _, rfl, Nat.lt_succ_self _⟩)⟩
            · unfold Instr.mapUpdate
              simp only [Sem.run_bind, run_underlying hu, Result.andThen_ok, hgo, hck, hrun, Instr.keyThatStays, hcj, Option.map_some, Option.getD_some, hsame, if_true, Sem.run_pure, hs]
            · rw [Array.toList_modify]
              exact putK_old hk hx hmr hej hqj hqt hno
            · rw [Array.toList_modify] at he
              obtain ⟨i, hi, rfl⟩ := List.mem_iff_getElem.1 he
              rw [List.getElem_modify]
              have hi' : i < ces.toList.length := by simpa using hi
              have := hborn _ (List.getElem_mem hi')
              split <;> exact this
            · rw [Array.toList_modify]
              have hb : (ces.toList.modify j fun e => { e with key := uk, val := ux }).map (·.born) = ces.toList.map (·.born) := by
                apply List.ext_getElem
                · simp
                · intro i h1 h2
                  simp only [List.getElem_map, List.getElem_modify]
                  split <;> rfl
              have h0 : (ces.toList.map (·.born)).Pairwise (· < ·) := List.pairwise_map.2 hpw
              rw [← hb] at h0
              exact List.pairwise_map.1 h0
      · cases hv
    · cases hv
  · cases hv

theorem del_ok {ρ : Ren} {h : Hp} {w : World} (hw : WR ρ h w) (hlm : Lim ρ h) {t ty kt et : Nat} {kc : KC} {m k v : AV} {um uk : Value} {h' : Hp} (hu : P.underlying t = some (.map kt et)) (hkc : keyC P kt = some kc)
    (hm : VR ρ m um) (hk : VR ρ k uk) (hv : delV kc m k h = .ok v h') (ts : Array Nat) (hts : ts[0]? = some t) : ∃ w', (Builtin.delete_ ts ty #[um, uk]).run P w = .ok (.tuple #[]) w' ∧ v = .tup [] ∧ Ext ρ ρ h h' w w' := by
  unfold delV at hv
  split at hv
  · rename_i r
    split at hv
    · rename_i es n hr
      split at hv
      · rename_i res hf
        cases hq : keyOk kc k with
        | false => rw [hq] at hv; cases hv
        | true =>
          rw [hq] at hv
          simp only [cond_true, Res.ok.injEq] at hv
          obtain ⟨rfl, rfl⟩ := hv
          obtain ⟨b, N, ces, clock, rfl, hl, ho, ⟨es', hmr, hpp⟩, hborn, hpw⟩ := hw.map hm hr
          have hf' := findK_p hpp hf
          have hck := checkKey_ok hkc hk hq ces.isEmpty w
          have hgo : (getObj b).run P w = .ok (.map ces clock) w := getObj_ok ho (by simp)
          rcases findKey_ok hkc hk w es' ces.toList res hmr hf' with ⟨rfl, hrun, hno⟩ | ⟨j, y, e, q, rfl, hrun, hej, hye, hqj, hqt, hno⟩
          · obtain ⟨w', hs, hat⟩ := setObj_at (P := P) (o' := .map ces clock) ho (by simp)
            refine ⟨w', ?_, rfl, Ext.put hw hlm hl hr (by simp) hat ⟨_, _, rfl, MRp.del hpp (by rw [delK_new hno]; exact hmr), hborn, hpw⟩ (fun es' m' e => by cases e; exact ⟨_, _, rfl, Nat.lt_succ_self _⟩)⟩
            unfold Builtin.delete_
            simp only [hts, List.getElem?_toArray, List.getElem?_cons_zero, List.getElem?_cons_succ, Sem.run_bind, run_underlying hu, Result.andThen_ok, hgo, hck, hrun, hs, Sem.run_pure]
          · obtain ⟨w', hs, hat⟩ := setObj_at (P := P) (o' := .map (ces.eraseIdxIfInBounds j) clock) ho (by simp)
            have hjl : j < ces.size := by
              rcases Nat.lt_or_ge j ces.size with g | g
              · exact g
              · rw [List.getElem?_eq_none (by simpa using g)] at hej; cases hej
            have htl : (ces.eraseIdxIfInBounds j).toList = ces.toList.eraseIdx j := by
              rw [Array.eraseIdxIfInBounds, dif_pos hjl]; simp
            refine ⟨w', ?_, rfl, Ext.put hw hlm hl hr (by simp) hat ⟨_, _, rfl, MRp.del hpp (by rw [htl]; exact delK_old hmr hej hqj hqt hno), fun e he => ?_, by rw [htl]; exact hpw.sublist (List.eraseIdx_sublist _ _)⟩ (fun es' m' e => by cases e; exact ⟨_, _, rfl, Nat.lt_succ_self _⟩)⟩
            · unfold Builtin.delete_
              simp only [hts, List.getElem?_toArray, List.getElem?_cons_zero, List.getElem?_cons_succ, Sem.run_bind, run_underlying hu, Result.andThen_ok, hgo, hck, hrun, hs, Sem.run_pure]
            · rw [htl] at he
              exact hborn e (List.mem_of_mem_eraseIdx he)
      · cases hv
    · cases hv
  · cases hv
end
end Hx
