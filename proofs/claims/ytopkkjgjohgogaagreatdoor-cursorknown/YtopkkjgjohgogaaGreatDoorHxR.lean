/- The evaluator: regions that draw their order: what is known of their plan. -/
import Derived.Test.YtopkkjgjohgogaaGreatDoorHxQ
namespace Hx
open Go

section
variable {P : Program}

/-- how many below n -/
def cnt (f : Nat → Bool) : Nat → Nat
  | 0 => 0
  | n + 1 => if f n then cnt f n + 1 else cnt f n
theorem cnt_le {f g : Nat → Bool} : ∀ {n : Nat}, (∀ k, k < n → f k = true → g k = true) → cnt f n ≤ cnt g n
  | 0, _ => Nat.le_refl _
  | n + 1, h => by
    have ih := cnt_le (f := f) (g := g) (n := n) fun k hk => h k (by omega)
    simp only [cnt]
    by_cases hf : f n = true
    · rw [if_pos hf, if_pos (h n (by omega) hf)]; omega
    · rw [if_neg hf]
      split <;> omega
theorem cnt_congr {f g : Nat → Bool} {n : Nat} (h : ∀ k, k < n → f k = g k) : cnt f n = cnt g n :=
  Nat.le_antisymm (cnt_le fun k hk e => by rw [← h k hk]; exact e) (cnt_le fun k hk e => by rw [h k hk]; exact e)
theorem cnt_split {f : Nat → Bool} {m : Nat} : ∀ {n : Nat}, m ≤ n → (∀ k, m ≤ k → k < n → f k = false) → cnt f n = cnt f m
  | 0, h, _ => by rw [Nat.le_zero.1 h]
  | n + 1, h, hf => by
    by_cases hm : m = n + 1
    · rw [hm]
    · simp only [cnt]
      rw [if_neg (by rw [hf n (by omega) (by omega)]; decide)]
      exact cnt_split (by omega) fun k h1 h2 => hf k h1 (by omega)
theorem cnt_mono (f : Nat → Bool) {m n : Nat} (h : m ≤ n) : cnt f m ≤ cnt f n := by
  induction n with
  | zero => rw [Nat.le_zero.1 h]; exact Nat.le_refl _
  | succ n ih =>
    by_cases hm : m = n + 1
    · rw [hm]; exact Nat.le_refl _
    · have := ih (by omega)
      simp only [cnt]
      split <;> omega

section plan
variable (nt : Nat) (ops : Array Oper)

def opN (i : Nat) : Oper := (ops[i]?).getD default
def dsv : Nat → List (Option Nat) := Lv fun i => (opN ops i).dst
noncomputable def xsN (i : Nat) : XOper := ⟨bif (match (opN ops i).dst with | some d => Nat.blt d nt | none => true) then compOp P (dsv ops i) (opN ops i) else .bad, guardX ops.toList (dsv ops i) (opN ops i)⟩

theorem ops_range : ops.toList = (List.range' 0 ops.size).map (opN ops) := by
  apply List.ext_getElem?
  intro i
  by_cases hi : i < ops.size
  · simp [hi, opN]
  · rw [List.getElem?_eq_none (by simpa using hi), List.getElem?_eq_none (by simpa using hi)]

theorem comp_range : ∀ (m i : Nat), compOps P nt ops.toList ((List.range' i m).map (opN ops)) (dsv ops i) = (List.range' i m).map (xsN (P := P) nt ops)
  | 0, _ => rfl
  | m + 1, i => by
    rw [List.range'_succ, List.map_cons, compOps_cons, List.map_cons]
    congr 1
    exact comp_range m (i + 1)

theorem comp_all : compOps P nt ops.toList ops.toList [] = (List.range' 0 ops.size).map (xsN (P := P) nt ops) := by
  conv => lhs; rw [ops_range ops]
  rw [← ops_range ops]
  have := comp_range (P := P) nt ops ops.size 0
  rw [← ops_range ops] at this
  exact this

/-- what the plan says of an operation -/
def plN (x : Nat → XOper) (r : Nat → Nat) (i : Nat) : Pl :=
  ⟨r i, cls (x i).op, guardT ops.toList (opN ops i) ++ (opN ops i).op.operands.toList.flatMap opnd, (opN ops i).dst, (match (x i).op with | .l q => some q | _ => none), (x i).guard⟩

theorem plans_cons (all : List Oper) (o : Oper) (l : List Oper) (x : XOper) (xs : List XOper) (done : List Nat) (i : Nat) :
    plans all (o :: l) (x :: xs) done i = (match reachOf done i o.after.toList with
      | some r => match plans all l xs (r :: done) (Nat.succ i) with
        | some ps => some (⟨r, cls x.op, guardT all o ++ o.op.operands.toList.flatMap opnd, o.dst, (match x.op with | .l q => some q | _ => none), x.guard⟩ :: ps)
        | none => none
      | none => none) := rfl

theorem plans_range (x : Nat → XOper) : ∀ (m i : Nat) (r0 : Nat → Nat) (ps : List Pl), plans ops.toList ((List.range' i m).map (opN ops)) ((List.range' i m).map x) (Lv r0 i) i = some ps →
    ∃ r : Nat → Nat, (∀ j, j < i → r j = r0 j) ∧ (∀ j, i ≤ j → j < i + m → reachOf (Lv r j) j (opN ops j).after.toList = some (r j)) ∧ ps = (List.range' i m).map (plN ops x r)
  | 0, i, r0, ps, h => by
    have h : some [] = some ps := h
    simp only [Option.some.injEq] at h
    subst h
    exact ⟨r0, fun _ _ => rfl, fun j h1 h2 => by omega, rfl⟩
  | m + 1, i, r0, ps, h => by
    rw [List.range'_succ, List.map_cons, List.map_cons, plans_cons] at h
    cases hr : reachOf (Lv r0 i) i (opN ops i).after.toList with
    | none => rw [hr] at h; cases h
    | some q =>
      rw [hr] at h
      simp only at h
      let r1 : Nat → Nat := fun j => if j = i then q else r0 j
      have e1 : q :: Lv r0 i = Lv r1 (i + 1) := by
        simp only [Lv]
        rw [Lv_congr (v := r0) (v' := r1) fun j hj => by simp only [r1]; rw [if_neg (by omega)]]
        simp [r1]
      rw [e1] at h
      cases hp : plans ops.toList ((List.range' (i + 1) m).map (opN ops)) ((List.range' (i + 1) m).map x) (Lv r1 (i + 1)) (Nat.succ i) with
      | none => rw [hp] at h; cases h
      | some ps' =>
        rw [hp] at h
        simp only [Option.some.injEq] at h
        subst h
        obtain ⟨r, g1, g2, g3⟩ := plans_range x m (i + 1) r1 ps' hp
        have hri : r i = q := by rw [g1 i (by omega)]; simp [r1]
        have hrl : ∀ j, j < i → r j = r0 j := fun j hj => by rw [g1 j (by omega)]; simp only [r1]; rw [if_neg (by omega)]
        refine ⟨r, hrl, fun j h1 h2 => ?_, ?_⟩
        · by_cases hj : j = i
          · subst hj
            rw [Lv_congr hrl, hri]; exact hr
          · exact g2 j (by omega) (by omega)
        · rw [List.range'_succ, List.map_cons, g3]
          unfold plN
          rw [hri]

theorem pairsAll_get (pl : Nat → Pl) : ∀ (m i : Nat), pairsAll ((List.range' i m).map pl) i = true → ∀ j k, i ≤ j → j < k → k < i + m → pairOk j (pl j) (pl k) = true
  | 0, i, _, j, k, h1, h2, h3 => by omega
  | m + 1, i, h, j, k, h1, h2, h3 => by
    rw [List.range'_succ, List.map_cons] at h
    have h : (pairs1 i (pl i) ((List.range' (i + 1) m).map pl) && pairsAll ((List.range' (i + 1) m).map pl) (i + 1)) = true := h
    rw [Bool.and_eq_true] at h
    by_cases hj : j = i
    · subst hj
      unfold pairs1 at h
      have := List.all_eq_true.1 h.1 (pl k) (List.mem_map.2 ⟨k, List.mem_range'_1.2 ⟨by omega, by omega⟩, rfl⟩)
      exact this
    · exact pairsAll_get pl m (i + 1) h.2 j k (by omega) h2 (by omega)

/-- bits of a mask come of edges -/
theorem reach_bit {r : Nat → Nat} {i : Nat} : ∀ {es : List Edge} {q : Nat}, reachOf (Lv r i) i es = some q → ∀ k, Nat.testBit q k = true → ∃ e ∈ es, coreE e = true ∧ e.on < i ∧ (e.on = k ∨ Nat.testBit (r e.on) k = true)
  | [], q, h, k, hk => by
    have h : some 0 = some q := h
    simp only [Option.some.injEq] at h
    subst h
    simp at hk
  | e :: es, q, h, k, hk => by
    have h : (match reachOf (Lv r i) i es with
      | some m => bif coreE e then (bif Nat.blt e.on i then some (Nat.lor (orBit m e.on) (match (Lv r i)[Nat.sub (Nat.sub i 1) e.on]? with | some r => r | none => 0)) else none) else some m
      | none => none) = some q := h
    cases hm : reachOf (Lv r i) i es with
    | none => rw [hm] at h; cases h
    | some m =>
      rw [hm] at h
      simp only at h
      have rest : Nat.testBit m k = true → ∃ e' ∈ e :: es, coreE e' = true ∧ e'.on < i ∧ (e'.on = k ∨ Nat.testBit (r e'.on) k = true) := fun hb => by
        obtain ⟨e', h1, h2⟩ := reach_bit hm k hb
        exact ⟨e', by simp [h1], h2⟩
      cases hc : coreE e with
      | false =>
        rw [hc] at h
        simp only [cond_false, Option.some.injEq] at h
        subst h
        exact rest hk
      | true =>
        rw [hc, blt_nat] at h
        simp only [cond_true] at h
        by_cases hlt : e.on < i
        · simp only [hlt, decide_true, cond_true, Option.some.injEq] at h
          subst h
          have hget : (Lv r i)[Nat.sub (Nat.sub i 1) e.on]? = some (r e.on) := by
            have key : ∀ (i k : Nat), k < i → (Lv r i)[k]? = some (r (i - 1 - k)) := by
              intro i
              induction i with
              | zero => intro k hk; omega
              | succ i ih =>
                intro k hk
                cases k with
                | zero => simp [Lv]
                | succ k => simp only [Lv, List.getElem?_cons_succ]; rw [ih k (by omega)]; congr 2; omega
            have := key i (i - 1 - e.on) (by omega)
            rw [show i - 1 - (i - 1 - e.on) = e.on by omega] at this
            exact this
          rw [hget] at hk
          simp only [orBit] at hk
          have hk : Nat.testBit ((m ||| (1 <<< e.on)) ||| r e.on) k = true := hk
          rw [Nat.testBit_or, Nat.testBit_or] at hk
          simp only [Bool.or_eq_true] at hk
          rcases hk with (hk | hk) | hk
          · exact rest hk
          · refine ⟨e, by simp, hc, hlt, .inl ?_⟩
            rw [Nat.one_shiftLeft, Nat.testBit_two_pow] at hk
            exact of_decide_eq_true hk
          · exact ⟨e, by simp, hc, hlt, .inr hk⟩
        · simp [hlt] at h
theorem reach_lt {r : Nat → Nat} {i : Nat} : ∀ {es : List Edge} {q : Nat}, reachOf (Lv r i) i es = some q → ∀ e ∈ es, coreE e = true → e.on < i
  | [], q, h, e, he, _ => by simp at he
  | e' :: es, q, h, e, he, hc => by
    have h : (match reachOf (Lv r i) i es with
      | some m => bif coreE e' then (bif Nat.blt e'.on i then some (Nat.lor (orBit m e'.on) (match (Lv r i)[Nat.sub (Nat.sub i 1) e'.on]? with | some r => r | none => 0)) else none) else some m
      | none => none) = some q := h
    cases hm : reachOf (Lv r i) i es with
    | none => rw [hm] at h; cases h
    | some m =>
      rw [hm] at h
      rcases List.mem_cons.1 he with rfl | he
      · rw [hc, blt_nat] at h
        simp only [cond_true] at h
        by_cases hlt : e.on < i
        · exact hlt
        · simp [hlt] at h
      · exact reach_lt hm e he hc

/-- the counts -/
theorem gapLo_cnt (pl : Nat → Pl) (m : Nat) : ∀ (n i : Nat), gapLo ((List.range' i n).map pl) m i + cnt (fun k => Nat.beq (pl k).cl 3 && Nat.testBit m k) i = cnt (fun k => Nat.beq (pl k).cl 3 && Nat.testBit m k) (i + n)
  | 0, i => by rw [Nat.add_zero]; exact Nat.zero_add _
  | n + 1, i => by
    rw [List.range'_succ, List.map_cons]
    have e : gapLo (pl i :: (List.range' (i + 1) n).map pl) m i = (bif Nat.beq (pl i).cl 3 && Nat.testBit m i then Nat.succ (gapLo ((List.range' (i + 1) n).map pl) m (i + 1)) else gapLo ((List.range' (i + 1) n).map pl) m (i + 1)) := rfl
    rw [e]
    have ih := gapLo_cnt pl m n (i + 1)
    rw [show i + (n + 1) = i + 1 + n by omega, ← ih]
    simp only [cnt]
    rcases Bool.eq_false_or_eq_true (Nat.beq (pl i).cl 3 && Nat.testBit m i) with e | e <;> simp only [e, cond_true, cond_false, if_true, Bool.false_eq_true, if_false] <;> omega
theorem gapHi_cnt (pl : Nat → Pl) (t : Nat) : ∀ (n i : Nat), gapHi ((List.range' i n).map pl) t + cnt (fun k => Nat.beq (pl k).cl 3 && !(Nat.testBit (pl k).reach t)) i = cnt (fun k => Nat.beq (pl k).cl 3 && !(Nat.testBit (pl k).reach t)) (i + n)
  | 0, i => by rw [Nat.add_zero]; exact Nat.zero_add _
  | n + 1, i => by
    rw [List.range'_succ, List.map_cons]
    have e : gapHi (pl i :: (List.range' (i + 1) n).map pl) t = (bif Nat.beq (pl i).cl 3 && !(Nat.testBit (pl i).reach t) then Nat.succ (gapHi ((List.range' (i + 1) n).map pl) t) else gapHi ((List.range' (i + 1) n).map pl) t) := rfl
    rw [e]
    have ih := gapHi_cnt pl t n (i + 1)
    rw [show i + (n + 1) = i + 1 + n by omega, ← ih]
    simp only [cnt]
    rcases Bool.eq_false_or_eq_true (Nat.beq (pl i).cl 3 && !(Nat.testBit (pl i).reach t)) with e | e <;> simp only [e, cond_true, cond_false, if_true, Bool.false_eq_true, if_false] <;> omega

/-- the checks of the reads -/
theorem gapsOf_get (all : List Pl) (pl : Nat → Pl) : ∀ (n i : Nat) (j : Nat) (lo : LOp), i ≤ j → j < i + n → (pl j).l = some lo →
    (⟨lo, (pl j).g, i + n - 1 - j, gapLo all (pl j).reach 0, gapHi all j⟩ : Gp) ∈ gapsOf all ((List.range' i n).map pl) i
  | 0, i, j, lo, h1, h2, _ => by omega
  | n + 1, i, j, lo, h1, h2, hl => by
    rw [List.range'_succ, List.map_cons]
    have e : gapsOf all (pl i :: (List.range' (i + 1) n).map pl) i = (match (pl i).l with
      | some o => ⟨o, (pl i).g, lenN ((List.range' (i + 1) n).map pl), gapLo all (pl i).reach 0, gapHi all i⟩ :: gapsOf all ((List.range' (i + 1) n).map pl) (i + 1)
      | none => gapsOf all ((List.range' (i + 1) n).map pl) (i + 1)) := rfl
    rw [e]
    by_cases hj : j = i
    · subst hj
      rw [hl, lenN_eq]
      simp only [List.length_map, List.length_range', List.mem_cons, Gp.mk.injEq, true_and, and_true]
      left; omega
    · have := gapsOf_get all pl n (i + 1) j lo (by omega) (by omega) hl
      rw [show i + 1 + n - 1 - j = i + (n + 1) - 1 - j by omega] at this
      split
      · exact List.mem_cons_of_mem _ this
      · exact this

theorem gapsOk_mem {F : Fr} {L : List AV} {G : List Hp} : ∀ {gs : List Gp}, gapsOk F L G gs = true → ∀ g ∈ gs, wantedX g.g F (dropN (Nat.succ g.back) L) = some true →
    gapAll g.o F (dropN (Nat.succ g.back) L) (nth L g.back) ((dropN (Nat.sub (lenN G) (Nat.succ g.hi)) G).take (Nat.succ (Nat.sub g.hi g.lo))) = true
  | [], _, g, hg, _ => by simp at hg
  | g' :: gs, h, g, hg, hw => by
    have h : (match wantedX g'.g F (dropN (Nat.succ g'.back) L) with
      | some true => gapAll g'.o F (dropN (Nat.succ g'.back) L) (nth L g'.back) ((dropN (Nat.sub (lenN G) (Nat.succ g'.hi)) G).take (Nat.succ (Nat.sub g'.hi g'.lo))) && gapsOk F L G gs
      | some false => gapsOk F L G gs
      | none => false) = true := h
    rcases List.mem_cons.1 hg with rfl | hg
    · rw [hw] at h
      simp only [Bool.and_eq_true] at h
      exact h.1
    · split at h
      · rw [Bool.and_eq_true] at h
        exact gapsOk_mem h.2 g hg hw
      · exact gapsOk_mem h g hg hw
      · cases h

theorem gapAll_mem {o : LOp} {F : Fr} {L : List AV} {v : AV} : ∀ {G : List Hp}, gapAll o F L v G = true → ∀ h ∈ G, lopX o F L h = some v
  | [], _, h, hh => by simp at hh
  | h' :: G, hg, h, hh => by
    have hg2 : (match lopX o F L h' with
      | some u => eqA u v && gapAll o F L v G
      | none => false) = true := hg
    cases hl : lopX o F L h' with
    | none => rw [hl] at hg2; cases hg2
    | some u =>
      rw [hl] at hg2
      simp only [Bool.and_eq_true] at hg2
      rcases List.mem_cons.1 hh with rfl | hh
      · rw [hl, eqA_ok hg2.1]
      · exact gapAll_mem hg2.2 h hh

theorem dropN_eq {α : Type} : ∀ (n : Nat) (l : List α), dropN n l = l.drop n
  | 0, _ => rfl
  | n + 1, [] => rfl
  | n + 1, x :: l => by
    show dropN n l = _
    rw [dropN_eq n l]; rfl

theorem Lv_drop {α : Type} (v : Nat → α) : ∀ (n i : Nat), i ≤ n → (Lv v n).drop (n - i) = Lv v i
  | 0, i, h => by rw [Nat.le_zero.1 h]; rfl
  | n + 1, i, h => by
    by_cases hi : i = n + 1
    · subst hi; simp
    · rw [show n + 1 - i = (n - i) + 1 by omega]
      simp only [Lv, List.drop_succ_cons]
      exact Lv_drop v n i (by omega)

theorem Gv_length (xs : Nat → Bool) (H : Nat → Hp) (h0 : Hp) : ∀ n, (Gv xs H [h0] 0 n).length = cnt xs n + 1
  | 0 => rfl
  | n + 1 => by
    simp only [Gv, cnt, Nat.zero_add]
    have := Gv_length xs H h0 n
    split <;> simp [this]
theorem Gv_get (xs : Nat → Bool) (H : Nat → Hp) : ∀ (n m : Nat), m ≤ n → (m = 0 ∨ xs (m - 1) = true) → (Gv xs H [H 0] 0 n)[cnt xs n - cnt xs m]? = some (H m)
  | 0, m, h, _ => by rw [Nat.le_zero.1 h]; rfl
  | n + 1, m, h, hm => by
    simp only [Gv, Nat.zero_add]
    by_cases hmn : m = n + 1
    · subst hmn
      rcases hm with hm | hm
      · omega
      · simp only [Nat.add_sub_cancel] at hm
        rw [if_pos hm, Nat.sub_self]; rfl
    · have ih := Gv_get xs H n m (by omega) hm
      have hle := cnt_mono xs (show m ≤ n by omega)
      simp only [cnt]
      by_cases hx : xs n = true
      · rw [if_pos hx, if_pos hx, show cnt xs n + 1 - cnt xs m = (cnt xs n - cnt xs m) + 1 by omega, List.getElem?_cons_succ]
        exact ih
      · rw [if_neg hx, if_neg hx]
        exact ih
end plan
end
end Hx
