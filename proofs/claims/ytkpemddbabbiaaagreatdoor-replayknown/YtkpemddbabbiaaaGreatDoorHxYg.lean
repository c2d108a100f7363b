/- The evaluator: calls whose results are known, over the part of the memory that they need. -/
import Derived.Test.YtkpemddbabbiaaaGreatDoorHxYf
namespace Hx
open Go

noncomputable section
/-- a written block in the place of another: an iterator over that map is good for nothing behind it -/
def ovr (k : KB) (b : Option Blk) : Blk := match k, b with
  | .map es, some (.map _ n) => .map es (Nat.succ n)
  | k, _ => k.blk
def kOver (l : List (Nat × KB)) (t : Tr Blk) : Tr Blk := List.rec (motive := fun _ => Tr Blk) t (fun p _ ih => ih.set p.1 (ovr p.2 (t.get p.1))) l

def statOne (t2 : Tr Blk) (p : Nat × KB) : Bool := match p.2, t2.get p.1 with
  | .map _, some (.map _ _) => true
  | .cells _ _, some _ => true
  | _, _ => false
def someB (b : Option Blk) : Bool := Option.rec (motive := fun _ => Bool) false (fun _ => true) b
def statK (e : Known) : Bool := (fun t1 t2 =>
  List.rec (motive := fun _ => Bool) true (fun p _ ih => statOne t2 p && ih) e.k1 &&
  List.rec (motive := fun _ => Bool) true (fun p _ ih => (someB (t1.get p.1) || Nat.ble e.n1 p.1) && ih) e.k2) (kSet e.k1) (kSet e.k2)

def plugF (e : Known) (call : CallT) : CallT := fun f l h => bif Nat.beq f e.f && eqAs2 e.l l && kSub e.k1 e.n1 h then .ok e.v ⟨kOver e.k2 h.t, e.n2⟩ else call f l h
end

section
variable {P : Program}

theorem kOver_get (t : Tr Blk) (i : Nat) : ∀ (l : List (Nat × KB)), (∃ k, (i, k) ∈ l ∧ (kSet l).get i = some k.blk ∧ (kOver l t).get i = some (ovr k (t.get i))) ∨ ((kSet l).get i = none ∧ (kOver l t).get i = t.get i)
  | [] => .inr ⟨Tr.get_nil _, rfl⟩
  | p :: l => by
    have e1 : kSet (p :: l) = (kSet l).set p.1 p.2.blk := rfl
    have e2 : kOver (p :: l) t = (kOver l t).set p.1 (ovr p.2 (t.get p.1)) := rfl
    rw [e1, e2]
    by_cases h : i = p.1
    · subst h
      exact .inl ⟨p.2, by simp, by rw [Tr.get_set_same], by rw [Tr.get_set_same]⟩
    · rw [Tr.get_set_ne _ _ h, Tr.get_set_ne _ _ h]
      rcases kOver_get t i l with ⟨k, h1, h2, h3⟩ | h0
      · exact .inl ⟨k, by simp [h1], h2, h3⟩
      · exact .inr h0

theorem stat1 {e : Known} (h : statK e = true) {i : Nat} {k : KB} (hk : (i, k) ∈ e.k1) : (∃ es, k = .map es ∧ ∃ es' v, (kSet e.k2).get i = some (.map es' v)) ∨ (∃ l wr b, k = .cells l wr ∧ (kSet e.k2).get i = some b) := by
  unfold statK at h
  simp only [Bool.and_eq_true] at h
  have h1 := h.1
  clear h
  generalize e.k1 = l at h1 hk
  induction l with
  | nil => cases hk
  | cons p l ih =>
    have h1 : (statOne (kSet e.k2) p && (List.rec (motive := fun _ => Bool) true (fun p _ ih => statOne (kSet e.k2) p && ih) l : Bool)) = true := h1
    rw [Bool.and_eq_true] at h1
    rcases List.mem_cons.1 hk with rfl | hk
    · have h2 := h1.1
      unfold statOne at h2
      split at h2
      · rename_i es _ _ _ g1 g2
        exact .inl ⟨_, g1, _, _, g2⟩
      · rename_i g1 g2
        exact .inr ⟨_, _, _, g1, g2⟩
      · cases h2
    · exact ih h1.2 hk
theorem stat2 {e : Known} (h : statK e = true) {i : Nat} {k : KB} (hk : (i, k) ∈ e.k2) : (∃ b, (kSet e.k1).get i = some b) ∨ e.n1 ≤ i := by
  unfold statK at h
  simp only [Bool.and_eq_true] at h
  have h1 := h.2
  clear h
  generalize e.k2 = l at h1 hk
  induction l with
  | nil => cases hk
  | cons p l ih =>
    have h1 : ((someB ((kSet e.k1).get p.1) || Nat.ble e.n1 p.1) && (List.rec (motive := fun _ => Bool) true (fun p _ ih => (someB ((kSet e.k1).get p.1) || Nat.ble e.n1 p.1) && ih) l : Bool)) = true := h1
    rw [Bool.and_eq_true, Bool.or_eq_true] at h1
    rcases List.mem_cons.1 hk with rfl | hk
    · rcases h1.1 with h2 | h2
      · left
        unfold someB at h2
        cases hq : (kSet e.k1).get i with
        | none => simp only [hq] at h2; cases h2
        | some b => exact ⟨b, rfl⟩
      · right
        rw [ble_nat] at h2
        simpa using h2
    · exact ih h1.2 hk

theorem plugF_ext {e : Known} (hst : statK e = true) {ρ ρ' : Ren} {h H' : Hp} {w w' : World} (hw : WR ρ h w) (hl : Lim ρ h) (s1 : Sub (kMem e.k1 e.n1) h) (s2 : Sub (kMem e.k2 e.n2) H') (x : Ext ρ ρ' (kMem e.k1 e.n1) H' w w') : Ext ρ ρ' h ⟨kOver e.k2 h.t, e.n2⟩ w w' := by
  have lt : ∀ i k, h.t.get i = some k → i < h.next := fun i k hk => by
    rcases Nat.lt_or_ge i h.next with g | g
    · exact g
    · rw [hw.fresh i g] at hk; cases hk
  have nx1 : h.next ≤ e.n1 := s1.nx
  have nx2 : H'.next ≤ e.n2 := s2.nx
  have nx3 : e.n1 ≤ H'.next := x.hn
  -- what is not written is not in the first memory
  have out : ∀ i, (kSet e.k2).get i = none → (kSet e.k1).get i = none := fun i hi => by
    cases hq : (kSet e.k1).get i with
    | none => rfl
    | some b =>
      obtain ⟨k, h1, h2⟩ := kSet_get e.k1 i b hq
      rcases stat1 hst h1 with ⟨_, _, _, _, g⟩ | ⟨_, _, _, _, g⟩ <;> rw [hi] at g <;> cases g
  have notown : ∀ i, (kSet e.k2).get i = none → ¬ Own (kMem e.k1 e.n1) i := fun i hi ⟨b, hb, _⟩ => by
    have hb : (kSet e.k1).get i = some b := hb
    rw [out i hi] at hb; cases hb
  have stay : ∀ i b n, (kSet e.k2).get i = none → ρ i = .live b n → w'.heap[b]? = w.heap[b]? := fun i b n hi hb =>
    x.fr b (hw.bd i b n hb) fun j m hj => by
      have := hw.inj j i b m n hj hb
      subst this
      exact notown j hi
  have ownb : ∀ (k : KB) (o : Option Blk), (∀ t top, ovr k o ≠ .cells t top false) → (∀ es, ovr k o ≠ .rmap es) → (∀ t top, k.blk ≠ .cells t top false) ∧ ∀ es, k.blk ≠ .rmap es := fun k o h1 h2 => by
    cases k with
    | cells l wr => exact ⟨h1, h2⟩
    | map es => exact ⟨fun _ _ e => (by cases e), fun _ e => (by cases e)⟩
    | gone => exact ⟨fun _ _ e => (by cases e), fun _ e => (by cases e)⟩
  refine { wr := { bd := x.wr.bd, inj := x.wr.inj, blk := fun i b n q hi hq => ?_, dead := fun i q hi hq => ?_, fresh := fun i hi => ?_, all := fun i q hq => ?_ }, lim := fun i hi => x.lim i (Nat.le_trans nx2 hi), le := x.le, hn := Nat.le_trans nx1 (Nat.le_trans nx3 nx2), hs := x.hs, nw := fun i b n hi => ?_, fr := fun b hb hno => x.fr b hb fun i n hi ho => hno i n hi (ho.sub s1), ow := fun i hi ho => ?_, kp := fun i b n hi ho => x.kp i b n hi fun q => ho (q.sub s1), io := x.io }
  · -- the blocks
    have hq : (kOver e.k2 h.t).get i = some q := hq
    rcases kOver_get h.t i e.k2 with ⟨k, g0, g1, g2⟩ | ⟨g1, g2⟩
    · rw [g2] at hq
      simp only [Option.some.injEq] at hq
      subst hq
      obtain ⟨b', p1, p2⟩ := s2.blk i k.blk g1
      obtain ⟨o, p3, p4⟩ := x.wr.blk i b n b' hi p1
      have p5 : BR ρ' ⟨kOver e.k2 h.t, e.n2⟩ w' n k.blk o := p2.br p4
      refine ⟨o, p3, ?_⟩
      cases k with
      | cells l wr => exact p5
      | gone => exact p5
      | map es =>
        generalize h.t.get i = z
        cases z with
        | none => exact p5
        | some z => cases z <;> exact p5
    · rw [g2] at hq
      have hin := lt i q hq
      rcases x.nw i b n hi with p1 | ⟨p1, _⟩
      · obtain ⟨o, p2, p3⟩ := hw.blk i b n q p1 hq
        refine ⟨o, by rw [stay i b n g1 p1]; exact p2, p3.keep x.le fun r c m es ver hr hes => ?_⟩
        rcases kOver_get h.t r e.k2 with ⟨k, k0, k1, k2⟩ | ⟨k1, k2⟩
        · rcases stat2 hst k0 with ⟨b1, hb1⟩ | hb1
          · obtain ⟨kk, m1, m2⟩ := kSet_get e.k1 r b1 hb1
            obtain ⟨b2, m3, m4⟩ := s1.blk r b1 hb1
            rw [hes] at m3
            simp only [Option.some.injEq] at m3
            subst m3
            subst m2
            rcases stat1 hst m1 with ⟨es1, rfl, es2, v2, m5⟩ | ⟨l1, wr1, b3, rfl, m5⟩
            · rw [k1] at m5
              simp only [Option.some.injEq] at m5
              cases k with
              | cells l wr => cases m5
              | gone => cases m5
              | map es3 =>
                obtain ⟨b4, m6, m7⟩ := s2.blk r _ k1
                have hlive : ρ' r = .live c m := by
                  rcases x.le.1 r c m hr with g | g
                  · exact g
                  · have := x.wr.dead r b4 g m6
                    subst this
                    exact m7.elim
                refine ⟨hlive, .inr ⟨es3, ver + 1, ?_, Nat.lt_succ_self _⟩⟩
                show (kOver e.k2 h.t).get r = _
                rw [k2, hes]
                rfl
            · exact m4.elim
          · have := lt r _ hes; omega
        · refine ⟨x.kp r c m hr (notown r k1), .inl ⟨?_, stay r c m k1 hr⟩⟩
          show (kOver e.k2 h.t).get r = _
          rw [k2]; exact hes
      · have p1 : e.n1 ≤ i := p1
        omega
  · have hq : (kOver e.k2 h.t).get i = some q := hq
    rcases kOver_get h.t i e.k2 with ⟨k, g0, g1, g2⟩ | ⟨g1, g2⟩
    · rw [g2] at hq
      simp only [Option.some.injEq] at hq
      subst hq
      obtain ⟨b', p1, p2⟩ := s2.blk i k.blk g1
      have := x.wr.dead i b' hi p1
      subst this
      cases k with
      | cells l wr => exact p2.elim
      | map es => exact p2.elim
      | gone => rfl
    · rw [g2] at hq
      cases hρ : ρ i with
      | no => exact absurd hρ (hw.all i q hq)
      | dead => exact hw.dead i q hρ hq
      | live b n =>
        have := x.kp i b n hρ (notown i g1)
        rw [this] at hi; cases hi
  · show (kOver e.k2 h.t).get i = none
    have hi : e.n2 ≤ i := hi
    rcases kOver_get h.t i e.k2 with ⟨k, g0, g1, g2⟩ | ⟨g1, g2⟩
    · obtain ⟨b', p1, _⟩ := s2.blk i k.blk g1
      rw [x.wr.fresh i (by omega)] at p1; cases p1
    · rw [g2]; exact hw.fresh i (by omega)
  · have hq : (kOver e.k2 h.t).get i = some q := hq
    rcases kOver_get h.t i e.k2 with ⟨k, g0, g1, g2⟩ | ⟨g1, g2⟩
    · obtain ⟨b', p1, _⟩ := s2.blk i k.blk g1
      exact x.wr.all i b' p1
    · rw [g2] at hq
      cases hρ : ρ i with
      | no => exact absurd hρ (hw.all i q hq)
      | dead => rw [x.le.2 i hρ]; simp
      | live b n => rw [x.kp i b n hρ (notown i g1)]; simp
  · rcases x.nw i b n hi with q | ⟨q1, q2⟩
    · exact .inl q
    · refine .inr ⟨Nat.le_trans nx1 q1, ?_⟩
      rcases q2 with q2 | ⟨j, m, q2, q3⟩
      · exact .inl q2
      · exact .inr ⟨j, m, q2, q3.sub s1⟩
  · obtain ⟨q, g, h1, h2⟩ := ho
    have g : (kOver e.k2 h.t).get i = some q := g
    rcases kOver_get h.t i e.k2 with ⟨k, g0, g1, g2⟩ | ⟨g1, g2⟩
    · rw [g2] at g
      simp only [Option.some.injEq] at g
      subst g
      have ho2 : Own (kMem e.k2 e.n2) i := ⟨k.blk, g1, (ownb k _ h1 h2).1, (ownb k _ h1 h2).2⟩
      exact (x.ow i (Nat.lt_of_lt_of_le hi nx1) (ho2.sub s2)).sub s1
    · rw [g2] at g
      exact ⟨q, g, h1, h2⟩

theorem plugF_ok {call call1 : CallT} {e : Known} (hcall : CallOk P call) (hcall1 : CallOk P call1) (hst : statK e = true) (hk : knownOk call1 e = true) : CallOk P (plugF e call) := fun f l h v h' hv ρ w args ha hw hl hg => by
  unfold plugF at hv
  cases hb : (Nat.beq f e.f && eqAs2 e.l l && kSub e.k1 e.n1 h) with
  | false => rw [hb] at hv; exact hcall f l h v h' hv ρ w args ha hw hl hg
  | true =>
    rw [hb] at hv
    simp only [cond_true, Res.ok.injEq] at hv
    obtain ⟨rfl, rfl⟩ := hv
    simp only [Bool.and_eq_true] at hb
    obtain ⟨⟨b1, b2⟩, b3⟩ := hb
    have hf := beqN_true b1
    subst hf
    have hle := eqAs2_ok b2
    subst hle
    unfold knownOk at hk
    split at hk
    · rename_i v1 h1 hrun
      rw [Bool.and_eq_true] at hk
      have hv1 := eqA_ok hk.1
      subst hv1
      have s1 := kSub_ok b3
      have s2 := kSub_ok hk.2
      obtain ⟨c1, c2⟩ := hcall1 _ _ _ _ _ hrun ρ w args ha (hw.sub s1) (hl.sub s1) (hg.sub s1)
      exact ⟨c1, c2.mono fun x w' ⟨u, ρ', he, hu, hx⟩ => ⟨u, ρ', he, hu, plugF_ext hst hw hl s1 s2 hx⟩⟩
    · cases hk
end
end Hx
