/- The evaluator: memory related; operations that read. -/
import Derived.Test.YtopkkjgjohgogaaGreatDoorHxG
import Derived.Laws.Cells
import Derived.Laws.IdiomCopy
namespace Hx
open Go

/-- the entries of a map -/
inductive MR (ρ : Ren) : List (AV × AV) → List MapEntry → Prop
  | nil : MR ρ [] []
  | cons (k v : AV) (e : MapEntry) (l : List (AV × AV)) (es : List MapEntry) (hk : VR ρ k e.key) (hv : VR ρ v e.val) (t : MR ρ l es) : MR ρ ((k, v) :: l) (e :: es)

theorem MR.mono {ρ ρ' : Ren} (hle : ρ.le ρ') : ∀ {l : List (AV × AV)} {es : List MapEntry}, MR ρ l es → MR ρ' l es
  | [], _, h => by cases h; exact .nil
  | _ :: _, _, h => by cases h with | cons k v e l es hk hv t => exact .cons _ _ _ _ _ (hk.mono hle) (hv.mono hle) (MR.mono hle t)
theorem MR.length {ρ : Ren} : ∀ {l : List (AV × AV)} {es : List MapEntry}, MR ρ l es → l.length = es.length
  | [], _, h => by cases h; rfl
  | _ :: _, _, h => by cases h with | cons k v e l es hk hv t => simp [MR.length t]

/-- keys that are numbers, each another one -/
def okK (es : List (AV × AV)) : Prop := (∀ e ∈ es, ∃ n, e.1 = AV.int .i64 n) ∧ (es.map (·.1)).Nodup
/-- the entries of a map: in their order, or, where the keys are numbers, in any -/
def MRp (ρ : Ren) (es : List (AV × AV)) (ces : List MapEntry) : Prop := ∃ es', MR ρ es' ces ∧ (es' = es ∨ (es'.Perm es ∧ okK es))
theorem MRp.mono {ρ ρ' : Ren} (hle : ρ.le ρ') {l : List (AV × AV)} {es : List MapEntry} : MRp ρ l es → MRp ρ' l es := fun ⟨es', h1, h2⟩ => ⟨es', h1.mono hle, h2⟩
theorem MR.p {ρ : Ren} {l : List (AV × AV)} {es : List MapEntry} (h : MR ρ l es) : MRp ρ l es := ⟨l, h, .inl rfl⟩
theorem MRp.length {ρ : Ren} {l : List (AV × AV)} {es : List MapEntry} : MRp ρ l es → l.length = es.length := fun ⟨es', h1, h2⟩ => by
  rw [← h1.length]
  rcases h2 with rfl | ⟨h2, _⟩
  · rfl
  · exact h2.length_eq.symm
theorem MRp.small {ρ : Ren} {l : List (AV × AV)} {es : List MapEntry} (hl : l.length ≤ 1) : MRp ρ l es → MR ρ l es := fun ⟨es', h1, h2⟩ => by
  rcases h2 with rfl | ⟨h2, _⟩
  · exact h1
  · match l, hl with
    | [], _ => rw [h2.eq_nil] at h1; exact h1
    | [x], _ => rw [List.perm_singleton.1 h2] at h1; exact h1
theorem okK.perm {a b : List (AV × AV)} (h : okK a) (p : a.Perm b) : okK b := ⟨fun e he => h.1 e (p.mem_iff.2 he), (p.map _).nodup_iff.1 h.2⟩
theorem okK.tail {e : AV × AV} {l : List (AV × AV)} (h : okK (e :: l)) : okK l := ⟨fun x hx => h.1 x (by simp [hx]), (List.nodup_cons.1 (by simpa using h.2)).2⟩

/-- what an iterator has not seen -/
def Rest (ρ : Ren) (left : List (AV × AV)) (ces : Array MapEntry) (seen : Array Nat) : Prop := ∃ l, l.Perm left ∧ MR ρ l (ces.toList.filter fun x => !seen.contains x.born)
theorem Rest.mono {ρ ρ' : Ren} (hle : ρ.le ρ') {left : List (AV × AV)} {ces : Array MapEntry} {seen : Array Nat} : Rest ρ left ces seen → Rest ρ' left ces seen := fun ⟨l, h1, h2⟩ => ⟨l, h1, h2.mono hle⟩

/-- where an iterator over a map stands -/
def IR (ρ : Ren) (w : World) (b : Nat) (since : Nat) (seen : Array Nat) (stepped : Nat) (es left : List (AV × AV)) (cur : Option (AV × AV)) : Prop :=
  ∃ ces clock, w.heap[b]? = some (.map ces clock) ∧ since = clock ∧ stepped = clock ∧
    ((left = es ∧ seen = #[] ∧ cur = none) ∨ (∃ k v e, left = [] ∧ es = [(k, v)] ∧ cur = some (k, v) ∧ ces = #[e] ∧ seen = #[e.born]) ∨
      ∃ k v e, cur = some (k, v) ∧ 2 ≤ es.length ∧ e ∈ ces.toList ∧ seen.back? = some e.born ∧ VR ρ k e.key ∧ VR ρ v e.val ∧ Rest ρ left ces seen)

theorem IR.mono {ρ ρ' : Ren} (hle : ρ.le ρ') {w : World} {b since : Nat} {seen : Array Nat} {stepped : Nat} {es left : List (AV × AV)} {cur : Option (AV × AV)} : IR ρ w b since seen stepped es left cur → IR ρ' w b since seen stepped es left cur := fun ⟨ces, clock, h1, h2, h3, h4⟩ =>
  ⟨ces, clock, h1, h2, h3, h4.elim .inl fun h => .inr (h.elim .inl fun ⟨k, v, e, g1, g2, g3, g4, g5, g6, g7⟩ => .inr ⟨k, v, e, g1, g2, g3, g4, g5.mono hle, g6.mono hle, g7.mono hle⟩)⟩

def BR (ρ : Ren) (h : Hp) (w : World) (n : Nat) (k : Blk) (o : Obj) : Prop := match k with
  | .cells t top wr => ∃ c e fr, o = .cells c e fr ∧ c.size = n ∧ top ≤ n ∧ (∀ k v, k < top → t.get k = some v → ∃ vc, c[k]? = some vc ∧ VR ρ v vc) ∧ (wr = true → ∀ k, k < n → ¬ (fr.1 ≤ k ∧ k < fr.2))
  | .map es _ => ∃ ces clock, o = .map ces clock ∧ MRp ρ es ces.toList ∧ (∀ e ∈ ces.toList, e.born < clock) ∧ ces.toList.Pairwise fun a b => a.born < b.born
  | .rmap es => ∃ ces clock, o = .map ces clock ∧ MRp ρ es ces.toList ∧ (∀ e ∈ ces.toList, e.born < clock) ∧ ces.toList.Pairwise fun a b => a.born < b.born
  | .siter s pos => ∃ bs, o = .stringIter bs pos ∧ bs.data.toList.map UInt8.toNat = s
  | .miter none _ _ => ∃ since seen stepped, o = .mapIter none since seen stepped
  | .miter (some (r, ver)) left cur => ∃ b since seen stepped es m, o = .mapIter (some b) since seen stepped ∧ (∃ m, ρ r = .live b m) ∧ h.t.get r = some (.map es m) ∧ ver ≤ m ∧ (m = ver → IR ρ w b since seen stepped es left cur)
  | .gone => True

structure WR (ρ : Ren) (h : Hp) (w : World) : Prop where
  bd : ∀ i b n, ρ i = .live b n → b < w.heap.size
  inj : ∀ i j b n m, ρ i = .live b n → ρ j = .live b m → i = j
  blk : ∀ i b n k, ρ i = .live b n → h.t.get i = some k → ∃ o, w.heap[b]? = some o ∧ BR ρ h w n k o
  dead : ∀ i k, ρ i = .dead → h.t.get i = some k → k = .gone
  fresh : ∀ i, h.next ≤ i → h.t.get i = none
  all : ∀ i k, h.t.get i = some k → ρ i ≠ .no

section
variable {P : Program}

theorem WR.cells {ρ : Ren} {h : Hp} {w : World} (hw : WR ρ h w) {i b n : Nat} {t : Tr AV} {top : Nat} {wr : Bool} (hi : ρ i = .live b n) (hb : h.t.get i = some (.cells t top wr)) :
    ∃ c e fr, w.heap[b]? = some (.cells c e fr) ∧ c.size = n ∧ top ≤ n ∧ (∀ k v, k < top → t.get k = some v → ∃ vc, c[k]? = some vc ∧ VR ρ v vc) ∧ (wr = true → ∀ k, k < n → ¬ (fr.1 ≤ k ∧ k < fr.2)) := by
  obtain ⟨o, ho, hbr⟩ := hw.blk i b n _ hi hb
  obtain ⟨c, e, fr, rfl, h1⟩ := hbr
  exact ⟨c, e, fr, ho, h1⟩

theorem getCells_zero (t : Tr AV) (off : Nat) : getCells t 0 off = some [] := rfl
theorem getCells_succ (t : Tr AV) (n off : Nat) : getCells t (n + 1) off = (match t.get off with | some v => (match getCells t n (off + 1) with | some l => some (v :: l) | none => none) | none => none) := by
  show Option.rec (motive := fun _ => Option (List AV)) none (fun v => Option.rec (motive := fun _ => Option (List AV)) none (fun l => some (v :: l)) (getCells t n (off + 1))) (t.get off) = _
  cases t.get off with
  | none => rfl
  | some v => cases getCells t n (off + 1) <;> rfl

theorem getCells_ok {t : Tr AV} : ∀ (n off : Nat) (l : List AV), getCells t n off = some l → l.length = n ∧ ∀ j v, l[j]? = some v → t.get (off + j) = some v
  | 0, off, l, h => by rw [getCells_zero] at h; simp only [Option.some.injEq] at h; subst h; simp
  | n + 1, off, l, h => by
    rw [getCells_succ] at h
    cases hv : t.get off with
    | none => rw [hv] at h; cases h
    | some v =>
      rw [hv] at h; simp only at h
      cases hl : getCells t n (off + 1) with
      | none => rw [hl] at h; cases h
      | some l' =>
        rw [hl] at h; simp only [Option.some.injEq] at h; subst h
        obtain ⟨h1, h2⟩ := getCells_ok n (off + 1) l' hl
        refine ⟨by simp [h1], fun j u hj => ?_⟩
        cases j with
        | zero => simp at hj; subst hj; simpa using hv
        | succ j => simp at hj; have := h2 j u hj; rwa [show off + 1 + j = off + (j + 1) by omega] at this

theorem ble_true {a b : Nat} (h : Nat.ble a b = true) : a ≤ b := Nat.le_of_ble_eq_true h

/-- cells read through a live pointer -/
theorem cellsAt_ok {ρ : Ren} {h : Hp} {w : World} (hw : WR ρ h w) {i off n : Nat} {l : List AV} (hl : cellsAt h i off n = some l) :
    ((∀ b m, ρ i = .live b m → ∃ vs : List Value, VRs ρ l vs ∧ vs.length = n ∧ ∀ j v, vs[j]? = some v → w.cell? ⟨b, off + j, none⟩ = some v)) ∧ ρ i ≠ .dead := by
  unfold cellsAt at hl
  split at hl
  · rename_i t top wr hb
    cases hle : Nat.ble (Nat.add off n) top with
    | false => rw [hle] at hl; cases hl
    | true =>
      rw [hle] at hl; simp only [cond_true] at hl
      have hle := ble_true hle
      obtain ⟨h1, h2⟩ := getCells_ok n off l hl
      refine ⟨fun b m hi => ?_, fun hd => by have := hw.dead i _ hd hb; cases this⟩
      obtain ⟨c, e, fr, hc, hs, ht, hv, _⟩ := hw.cells hi hb
      have key : ∀ (l : List AV) (o : Nat), o + l.length ≤ top → (∀ j v, l[j]? = some v → t.get (o + j) = some v) → ∃ vs : List Value, VRs ρ l vs ∧ vs.length = l.length ∧ ∀ j v, vs[j]? = some v → c[o + j]? = some v := by
        intro l
        induction l with
        | nil => intro o _ _; exact ⟨[], .nil, rfl, by simp⟩
        | cons x l ih =>
          intro o ho hx
          simp only [List.length_cons] at ho
          obtain ⟨vs, g1, g2, g3⟩ := ih (o + 1) (by omega) (fun j v hj => by have := hx (j + 1) v (by simpa using hj); rwa [show o + (j + 1) = o + 1 + j by omega] at this)
          obtain ⟨vc, hvc, hr⟩ := hv o x (by omega) (by simpa using hx 0 x (by simp))
          refine ⟨vc :: vs, .cons _ _ _ _ hr g1, by simp [g2], fun j v hj => ?_⟩
          cases j with
          | zero => simp at hj; subst hj; simpa using hvc
          | succ j => simp at hj; have := g3 j v hj; rwa [show o + 1 + j = o + (j + 1) by omega] at this
      have hle' : off + n ≤ top := hle
      obtain ⟨vs, g1, g2, g3⟩ := key l off (by omega) h2
      exact ⟨vs, g1, by omega, fun j v hj => by simp [World.cell?, hc, g3 j v hj]⟩
  · cases hl

theorem findK_cons (kc : KC) (k : AV) (e : AV × AV) (es : List (AV × AV)) : findK kc k (e :: es) = (match keyEq kc k e.1 with | some true => some (some e.2) | some false => findK kc k es | none => none) := by
  show (match keyEq kc k e.1 with | some true => some (some e.2) | some false => findK kc k es | none => none) = _
  rfl

theorem beqS (a b : ByteArray) : (a == b) = (a.toList == b.toList) := beq_toListBytes a b

/-- keys compared -/
theorem keyEq_ok {ρ : Ren} {kt : Nat} {kc : KC} {x y : AV} {u v : Value} {r : Bool} (hkc : keyC P kt = some kc) (hx : VR ρ x u) (hy : VR ρ y v) (h : keyEq kc x y = some r) :
    (∀ w, (Op.equal kt u v).run P w = .ok r w) ∧ (∀ d, P.underlying kt = some d → (∃ c, kc = .sc c ∧ Instr.sameNow d u v = some r) ∨ (∃ o, kc = .ag o ∧ Instr.sameNow d u v = none)) := by
  unfold keyC at hkc
  cases hs : scT P kt with
  | some c =>
    rw [hs] at hkc; simp only [Option.some.injEq] at hkc; subst hkc
    have h : eq1 c x y = some r := h
    refine ⟨fun w => equal_of fun d => eq1_ok w hs hx hy h d, fun d hd => .inl ⟨c, rfl, ?_⟩⟩
    obtain ⟨d', hu, hof⟩ := scT_of hs
    rw [hu] at hd; simp only [Option.some.injEq] at hd; subst hd
    rcases eq1_shape hx hy h with ⟨rfl, p, q, rfl, rfl, rfl⟩ | ⟨rfl, k, p, q, rfl, rfl, rfl⟩ | ⟨rfl, p, q, rfl, rfl, rfl⟩
    · have : d' = .bool := hof; subst this; rfl
    · obtain ⟨k', rfl⟩ := hof; simp [Instr.sameNow]
    · have : d' = .string := hof; subst this; simp [Instr.sameNow, beqS]
  | none =>
    rw [hs] at hkc; simp only at hkc
    cases ha : aggOffs P kt with
    | none => rw [ha] at hkc; cases hkc
    | some o =>
      rw [ha] at hkc; simp only [Option.some.injEq] at hkc; subst hkc
      unfold keyEq at h
      simp only at h
      split at h
      · cases hx; cases hy
        rename_i h1 _ h2
        refine ⟨fun w => eqAgg_ok w ha h1 h2 h, fun d hd => .inr ⟨o, rfl, ?_⟩⟩
        have := (aggOffs_of ha).1
        rw [this] at hd; simp only [Option.some.injEq] at hd; subst hd
        rfl
      · cases h

theorem findAsking_ok {ρ : Ren} {kt : Nat} {kc : KC} {k : AV} {u : Value} (hkc : keyC P kt = some kc) (hk : VR ρ k u) (w : World) : ∀ (es : List (AV × AV)) (ces : List MapEntry) (i : Nat) (r : Option AV), MR ρ es ces → findK kc k es = some r →
    (r = none ∧ (Instr.findAsking kt u ces i).run P w = .ok none w ∧ ∀ e ∈ es, keyEq kc k e.1 = some false) ∨ ∃ j v e q, r = some v ∧ (Instr.findAsking kt u ces i).run P w = .ok (some (i + j, e.val)) w ∧ ces[j]? = some e ∧ VR ρ v e.val ∧ es[j]? = some (q, v) ∧ keyEq kc k q = some true ∧ ∀ j', j' < j → ∀ x, es[j']? = some x → keyEq kc k x.1 = some false
  | [], ces, i, r, hm, hf => by
    cases hm
    have : r = none := by simpa [findK] using hf.symm
    exact .inl ⟨this, rfl, by simp⟩
  | x :: es, ces, i, r, hm, hf => by
    cases hm with
    | cons kx vx e _ ces hkx hvx t =>
      rw [findK_cons] at hf
      cases hq : keyEq kc k kx with
      | none => simp only [hq] at hf; cases hf
      | some b =>
        have hrun := (keyEq_ok hkc hk hkx hq).1 w
        cases b with
        | true =>
          simp only [hq, Option.some.injEq] at hf; subst hf
          refine .inr ⟨0, vx, e, kx, rfl, ?_, rfl, hvx, rfl, hq, by simp⟩
          simp only [Instr.findAsking, Sem.run_bind, hrun, Result.andThen_ok, if_true, Sem.run_pure, Nat.add_zero]
        | false =>
          simp only [hq] at hf
          have step : (Instr.findAsking kt u (e :: ces) i).run P w = (Instr.findAsking kt u ces (i + 1)).run P w := by
            simp only [Instr.findAsking, Sem.run_bind, hrun, Result.andThen_ok, Bool.false_eq_true, if_false]
          rcases findAsking_ok hkc hk w es ces (i + 1) r t hf with ⟨h1, h2, h3⟩ | ⟨j, v, e', q, h1, h2, h3, h4, h5, h6, h7⟩
          · refine .inl ⟨h1, by rw [step, h2], fun y hy => ?_⟩
            rcases List.mem_cons.1 hy with rfl | hy
            · exact hq
            · exact h3 y hy
          · refine .inr ⟨j + 1, v, e', q, h1, by rw [step, h2]; congr 3; omega, by simpa using h3, h4, by simpa using h5, h6, fun j' hj' y hy => ?_⟩
            cases j' with
            | zero => simp at hy; subst hy; exact hq
            | succ j' => exact h7 j' (by omega) y (by simpa using hy)

theorem findNow_ok {ρ : Ren} {kt : Nat} {c : SC} {d : TypeDesc} {k : AV} {u : Value} (hkc : keyC P kt = some (.sc c)) (hd : P.underlying kt = some d) (hk : VR ρ k u) (w : World) : ∀ (es : List (AV × AV)) (ces : List MapEntry) (i : Nat) (r : Option AV), MR ρ es ces → findK (.sc c) k es = some r →
    ∃ r', Instr.findNow d u ces i = some r' ∧ (Instr.findAsking kt u ces i).run P w = .ok r' w
  | [], ces, i, r, hm, hf => by cases hm; exact ⟨none, rfl, rfl⟩
  | x :: es, ces, i, r, hm, hf => by
    cases hm with
    | cons kx vx e _ ces hkx hvx t =>
      rw [findK_cons] at hf
      cases hq : keyEq (.sc c) k kx with
      | none => simp only [hq] at hf; cases hf
      | some b =>
        obtain ⟨h1, h2⟩ := keyEq_ok hkc hk hkx hq
        have hrun := h1 w
        rcases h2 d hd with ⟨_, _, hsame⟩ | ⟨_, he, _⟩
        · cases b with
          | true =>
            refine ⟨some (i, e.val), by simp [Instr.findNow, hsame], ?_⟩
            simp only [Instr.findAsking, Sem.run_bind, hrun, Result.andThen_ok, if_true, Sem.run_pure]
          | false =>
            simp only [hq] at hf
            obtain ⟨r', g1, g2⟩ := findNow_ok hkc hd hk w es ces (i + 1) r t hf
            refine ⟨r', by simp [Instr.findNow, hsame, g1], ?_⟩
            simp only [Instr.findAsking, Sem.run_bind, hrun, Result.andThen_ok, Bool.false_eq_true, if_false]
            exact g2
        · cases he

/-- how a key is found -/
theorem findKey_ok {ρ : Ren} {kt : Nat} {kc : KC} {k : AV} {u : Value} (hkc : keyC P kt = some kc) (hk : VR ρ k u) (w : World) (es : List (AV × AV)) (ces : List MapEntry) (r : Option AV) (hm : MR ρ es ces) (hf : findK kc k es = some r) :
    (r = none ∧ (Instr.findKey kt u ces).run P w = .ok none w ∧ ∀ e ∈ es, keyEq kc k e.1 = some false) ∨ ∃ j v e q, r = some v ∧ (Instr.findKey kt u ces).run P w = .ok (some (j, e.val)) w ∧ ces[j]? = some e ∧ VR ρ v e.val ∧ es[j]? = some (q, v) ∧ keyEq kc k q = some true ∧ ∀ j', j' < j → ∀ x, es[j']? = some x → keyEq kc k x.1 = some false := by
  have hd : ∃ d, P.underlying kt = some d := by
    unfold keyC at hkc
    cases hs : scT P kt with
    | some c => obtain ⟨d, h, _⟩ := scT_of hs; exact ⟨d, h⟩
    | none =>
      rw [hs] at hkc; simp only at hkc
      cases ha : aggOffs P kt with
      | none => rw [ha] at hkc; cases hkc
      | some o => exact ⟨_, (aggOffs_of ha).1⟩
  obtain ⟨d, hd⟩ := hd
  have hrun : (Instr.findKey kt u ces).run P w = (Instr.findAsking kt u ces 0).run P w := by
    unfold Instr.findKey
    simp only [Sem.run_bind, run_underlying hd, Result.andThen_ok]
    cases kc with
    | sc c =>
      obtain ⟨r', g1, g2⟩ := findNow_ok hkc hd hk w es ces 0 r hm hf
      rw [g1, g2]; rfl
    | ag o =>
      cases hm with
      | nil => rfl
      | cons kx vx e l ces hkx hvx t =>
        rw [findK_cons] at hf
        cases hq : keyEq (.ag o) k kx with
        | none => simp only [hq] at hf; cases hf
        | some b =>
          rcases (keyEq_ok hkc hk hkx hq).2 d hd with ⟨_, he, _⟩ | ⟨_, _, hsame⟩
          · cases he
          · simp only [Instr.findNow, hsame]
  rw [hrun]
  rcases findAsking_ok hkc hk w es ces 0 r hm hf with h | ⟨j, v, e, q, h1, h2, h3⟩
  · exact .inl h
  · exact .inr ⟨j, v, e, q, h1, by rw [h2, Nat.zero_add], h3⟩

theorem check1 {t : Nat} {c : SC} {ρ : Ren} {x : AV} {v : Value} {b : Bool} (hs : scT P t = some c) (hx : VR ρ x v) (he : eq1 c x x = some b) (em : Bool) (n : Nat) (w : World) : (Instr.checkKey em (n + 1) t v).run P w = .ok () w := by
  obtain ⟨d, hu, hof⟩ := scT_of hs
  unfold Instr.checkKey
  simp only [Sem.run_bind, run_underlying hu, Result.andThen_ok]
  rcases eq1_shape hx hx he with ⟨rfl, p, q, rfl, _, _⟩ | ⟨rfl, k, p, q, rfl, _, _⟩ | ⟨rfl, p, q, rfl, _, _⟩
  · have : d = .bool := hof; subst this; rfl
  · obtain ⟨k', rfl⟩ := hof; rfl
  · have : d = .string := hof; subst this; rfl

theorem checkFields {ρ : Ren} {a : List AV} {xs : Array Value} (ha : VRs ρ a xs.toList) (em : Bool) (n : Nat) (w : World) : ∀ (fs : List Field) (offs : List (Nat × SC)), offsL P fs = some offs → eqL offs a a = some true →
    (forIn fs PUnit.unit fun f (_ : PUnit) => (if f.name ≠ "_" then do
        let x ← part f.type xs f.offset
        Instr.checkKey em (n + 1) f.type x
        pure (ForInStep.yield PUnit.unit) else pure (ForInStep.yield PUnit.unit) : Sem (ForInStep PUnit))).run P w = .ok PUnit.unit w
  | [], _, _, _ => rfl
  | f :: fs, offs, ho, he => by
    have ho' : (match scT P f.type, P.info? f.type, offsL P fs with
      | some c, some _, some l => bif decide (f.name ≠ "_") then some ((f.offset, c) :: l) else none
      | _, _, _ => none) = some offs := ho
    cases hc : scT P f.type with
    | none => rw [hc] at ho'; cases ho'
    | some c =>
      cases hi : P.info? f.type with
      | none => rw [hc, hi] at ho'; cases ho'
      | some i =>
        cases hl : offsL P fs with
        | none => rw [hc, hi, hl] at ho'; cases ho'
        | some l =>
          rw [hc, hi, hl] at ho'
          by_cases hn : f.name = "_"
          · simp [hn] at ho'
          · simp only [ne_eq, hn, not_false_eq_true, decide_true, cond_true, Option.some.injEq] at ho'
            subst ho'
            have he' : (match a[f.offset]?, a[f.offset]? with
              | some x, some y => (match eq1 c x y with
                | some true => eqL l a a
                | some false => some false
                | none => none)
              | _, _ => none) = some true := he
            cases hxa : a[f.offset]? with
            | none => rw [hxa] at he'; cases he'
            | some x =>
              rw [hxa] at he'
              obtain ⟨u, hu, hxu⟩ := ha.get hxa
              cases h1 : eq1 c x x with
              | none => simp only [h1] at he'; cases he'
              | some r1 =>
                simp only [h1] at he'
                cases r1 with
                | false => cases he'
                | true =>
                  rw [List.forIn_cons]
                  simp only [ne_eq, hn, not_false_eq_true, if_true, Sem.run_bind, part_sc hc (by simpa using hu : xs[f.offset]? = some u) w, Result.andThen_ok, check1 hc hxu h1 em n w, Sem.run_pure]
                  exact checkFields ha em n w fs l hl he'

/-- a value that compares with itself may be a key -/
theorem checkKey_ok {ρ : Ren} {kt : Nat} {kc : KC} {k : AV} {u : Value} (hkc : keyC P kt = some kc) (hk : VR ρ k u) (hok : keyOk kc k = true) (em : Bool) (w : World) : (Instr.checkKey em 10000 kt u).run P w = .ok () w := by
  unfold keyOk at hok
  split at hok
  · rename_i hq
    unfold keyC at hkc
    cases hs : scT P kt with
    | some c =>
      rw [hs] at hkc; simp only [Option.some.injEq] at hkc; subst hkc
      exact check1 hs hk hq em 9999 w
    | none =>
      rw [hs] at hkc; simp only at hkc
      cases ha : aggOffs P kt with
      | none => rw [ha] at hkc; cases hkc
      | some o =>
        rw [ha] at hkc; simp only [Option.some.injEq] at hkc; subst hkc
        unfold keyEq at hq
        simp only at hq
        split at hq
        · cases hk
          rename_i hag
          obtain ⟨h1, _, _, h4⟩ := aggOffs_of ha
          have key : ∀ n, (Instr.checkKey em (n + 1 + 1) kt (.agg _)).run P w = .ok () w := fun n => by
            rw [Instr.checkKey]
            simp only [Sem.run_bind, run_underlying h1, Result.andThen_ok]
            rw [← Array.forIn_toList]
            rw [checkFields hag em n w _ _ h4 hq]; rfl
          exact key 9998
        · cases hq
  · cases hok

/-! ### keys that are numbers: the order does not matter -/
theorem keyEq_int {kc : KC} {k : AV} {n : Int} {b : Bool} (h : keyEq kc k (.int .i64 n) = some b) : ∃ p, kc = .sc .i ∧ k = .int .i64 p ∧ b = eqI p n := by
  cases kc with
  | ag o => cases k <;> cases h
  | sc c =>
    have h : eq1 c k (.int .i64 n) = some b := h
    cases c <;> cases k <;> first | cases h | skip
    rename_i k' p _
    have h : (if eqK k' .i64 then some (eqI p n) else none) = some b := by
      have : (bif eqK k' .i64 then some (eqI p n) else none) = some b := by simpa [eq1, Bool.cond_eq_ite] using h
      simpa [Bool.cond_eq_ite] using this
    rw [eqK_eq] at h
    by_cases hk : k' = .i64
    · subst hk
      simp only [decide_true, if_true, Option.some.injEq] at h
      exact ⟨p, rfl, rfl, h.symm⟩
    · simp [hk] at h
theorem keyEq_ii (p n : Int) : keyEq (.sc .i) (.int .i64 p) (.int .i64 n) = some (eqI p n) := rfl

theorem findK_mem {p : Int} {v : AV} : ∀ {es : List (AV × AV)}, okK es → (AV.int .i64 p, v) ∈ es → findK (.sc .i) (.int .i64 p) es = some (some v)
  | [], _, h => by cases h
  | e :: es, ho, h => by
    obtain ⟨n, hn⟩ := ho.1 e (by simp)
    rw [findK_cons, hn, keyEq_ii, eqI_eq]
    rcases List.mem_cons.1 h with rfl | h
    · simp only [AV.int.injEq, true_and] at hn
      subst hn
      simp
    · have hne : p ≠ n := fun q => by
        have h2 := (List.nodup_cons.1 (show ((e.1 :: es.map (·.1)).Nodup) from ho.2)).1
        exact h2 (List.mem_map.2 ⟨_, h, by rw [hn, q]⟩)
      have : (p == n) = false := by simpa using hne
      rw [this]
      exact findK_mem ho.tail h
theorem findK_not {p : Int} : ∀ {es : List (AV × AV)}, okK es → (∀ v, (AV.int .i64 p, v) ∉ es) → findK (.sc .i) (.int .i64 p) es = some none
  | [], _, _ => rfl
  | e :: es, ho, h => by
    obtain ⟨n, hn⟩ := ho.1 e (by simp)
    rw [findK_cons, hn, keyEq_ii, eqI_eq]
    have hne : p ≠ n := fun q => h e.2 (by rw [q, ← hn]; simp)
    have : (p == n) = false := by simpa using hne
    rw [this]
    exact findK_not ho.tail fun v hv => h v (by simp [hv])
theorem findK_some {kc : KC} {k : AV} {e : AV × AV} {es : List (AV × AV)} {r : Option AV} (ho : okK (e :: es)) (hf : findK kc k (e :: es) = some r) : ∃ p, kc = .sc .i ∧ k = .int .i64 p := by
  obtain ⟨n, hn⟩ := ho.1 e (by simp)
  rw [findK_cons, hn] at hf
  cases hq : keyEq kc k (.int .i64 n) with
  | none => rw [hq] at hf; cases hf
  | some b => obtain ⟨p, h1, h2, _⟩ := keyEq_int hq; exact ⟨p, h1, h2⟩
theorem findK_perm {kc : KC} {k : AV} {es es' : List (AV × AV)} {r : Option AV} (hp : es'.Perm es) (ho : okK es) (hf : findK kc k es = some r) : findK kc k es' = some r := by
  cases es with
  | nil => rw [hp.eq_nil]; exact hf
  | cons e l =>
    obtain ⟨p, rfl, rfl⟩ := findK_some ho hf
    have ho' := ho.perm hp.symm
    by_cases hm : ∃ v, (AV.int .i64 p, v) ∈ e :: l
    · obtain ⟨v, hm⟩ := hm
      rw [findK_mem ho hm] at hf
      rw [findK_mem ho' (hp.mem_iff.2 hm), hf]
    · have hm : ∀ v, (AV.int .i64 p, v) ∉ e :: l := fun v hv => hm ⟨v, hv⟩
      rw [findK_not ho hm] at hf
      rw [findK_not ho' fun v hv => hm v (hp.mem_iff.1 hv), hf]
theorem findK_p {kc : KC} {k : AV} {es es' : List (AV × AV)} {r : Option AV} (hp : es' = es ∨ (es'.Perm es ∧ okK es)) (hf : findK kc k es = some r) : findK kc k es' = some r := by
  rcases hp with rfl | ⟨hp, ho⟩
  · exact hf
  · exact findK_perm hp ho hf
end
end Hx
