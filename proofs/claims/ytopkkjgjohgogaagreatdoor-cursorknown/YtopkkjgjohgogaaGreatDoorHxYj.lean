/- The evaluator: functions in whose place others stand. -/
import Derived.Test.YtopkkjgjohgogaaGreatDoorHxYe
namespace Hx
open Go

section
variable {P : Program}

/-- what is asked of what stands in a function's place -/
def OvOk (P : Program) (f : Nat) (g : List AV → Hp → Res) : Prop := ∀ (l : List AV) (h : Hp) (v : AV) (h' : Hp), g l h = .ok v h' → ∀ (ρ : Ren) (w : World) (args : Array Value), VRs ρ l args.toList → WR ρ h w → Lim ρ h → Gl ρ h →
  (∃ fn c, P.funcs[f]? = some fn ∧ fn.body = some c) ∧ Calls P f args w fun e w' => ∃ u ρ', e = .returned u ∧ VR ρ' v u ∧ Ext ρ ρ' h h' w w'

noncomputable def resZ (P : Program) (fn : Func) (x : Fr → Hp → XR) (l : List AV) (h : Hp) : Res :=
  XR.rec (motive := fun _ => Res) (fun F h => resX P fn.results.toList F h) (fun _ _ _ => .bad [5555555]) (fun F h => resX P fn.results.toList F h) (fun w => .bad (5555556 :: w)) (x (parF (outsF fn) l (nat_lit 0)) h)

/-- a function by another run of its code -/
theorem fun_ok {f : Nat} {fn : Func} {c : Code} {x : Fr → Hp → XR} (hfn : P.funcs[f]? = some fn) (hb : fn.body = some c) (hx : CodeOk P fn.ntmps (outsF fn) c x) : OvOk P f (resZ P fn x) :=
  fun l h v h' hr ρ w args ha hw hl hg => by
    unfold resZ at hr
    refine ⟨⟨fn, c, hfn, hb⟩, ?_⟩
    have hrun : ∀ F1 h1, resX P fn.results.toList F1 h1 = .ok v h' → ∀ e a1 w1, (e = .normal ∨ e = .ret) → (∃ ρ', Ext ρ ρ' h h1 w w1 ∧ FR ρ' F1 [] [] a1 ∧ Fm fn.ntmps (outsF fn) F1 a1) →
        bodyPost P fn (fun e w' => ∃ u ρ', e = .returned u ∧ VR ρ' v u ∧ Ext ρ ρ' h h' w w') e a1 w1 := fun F1 h1 hres e a1 w1 he ⟨ρ', hext, hfr, hfm⟩ => by
      obtain ⟨rfl, u, g1, g2⟩ := results_ok hext.wr hfr hres
      rcases he with rfl | rfl <;> exact ⟨hfm.defers, u, g1, u, ρ', rfl, g2, hext⟩
    refine calls_of_wp hfn hb (wp_mono (hx (parF (outsF fn) l 0) h _ w ρ (fun y hy => by rw [hy] at hr; cases hr) hw hl hg (fun t => ?_) ⟨fun t v hv => ?_, ?_, rfl⟩) fun e a1 w1 hd => ?_)
    · rw [co_tmp, findD_nil]
      simp only
      rw [ev_f, parF_get]
      by_cases hq : 0 ≤ t ∧ Nat.testBit (outsF fn) t = true
      · rw [if_pos hq, Nat.sub_zero]
        cases hlt : l[t]? with
        | none => exact .bot _
        | some x =>
          obtain ⟨u, g1, g2⟩ := ha.get hlt
          have : (args ++ Array.replicate (fn.ntmps - args.size) undef).getD t undef = u := by
            have hts : t < args.size := by
              have := (List.getElem?_eq_some_iff.1 g1).1
              simpa using this
            rw [Array.getD_eq_getD_getElem?, Array.getElem?_append_left hts]
            rw [Array.getElem?_toList] at g1
            rw [g1]; rfl
          rw [this]; exact g2
      · rw [if_neg hq]; exact .bot _
    · rw [parF_get] at hv
      by_cases hq : 0 ≤ t ∧ Nat.testBit (outsF fn) t = true
      · exact hq.2
      · rw [if_neg hq] at hv; cases hv
    · simp; omega
    · obtain ⟨F1, h1, hor, hrest⟩ := hd
      rcases hor with ⟨q, he⟩ | ⟨q, he⟩ | ⟨j, q, he⟩
      · rw [q] at hr; exact hrun F1 h1 hr e a1 w1 (.inl he) hrest
      · rw [q] at hr; exact hrun F1 h1 hr e a1 w1 (.inr he) hrest
      · rw [q] at hr; cases hr

/-- one function's place -/
noncomputable def ovX (f : Nat) (g : List AV → Hp → Res) (call : CallT) : CallT := fun k l h => bif Nat.beq k f then g l h else call k l h
theorem ovX_ok {f : Nat} {g : List AV → Hp → Res} {call : CallT} (hg : OvOk P f g) (hcall : CallOk P call) : CallOk P (ovX f g call) := fun k l h v h' hv ρ w args ha hw hl hgl => by
  unfold ovX at hv
  cases hb : Nat.beq k f with
  | false => rw [hb] at hv; exact hcall k l h v h' hv ρ w args ha hw hl hgl
  | true =>
    rw [hb] at hv
    have := beqN_true hb
    subst this
    exact hg l h v h' hv ρ w args ha hw hl hgl

/-- a call that hands back what is said and leaves all that was there: as a contract of the kit tells it -/
theorem ov_of_contract {f : Nat} {g : List AV → Hp → Res} (hfn : ∃ fn c, P.funcs[f]? = some fn ∧ fn.body = some c)
    (h : ∀ (l : List AV) (h0 : Hp) (v : AV) (h' : Hp), g l h0 = .ok v h' → h' = h0 ∧ ∀ (ρ : Ren) (w : World) (args : Array Value), VRs ρ l args.toList → WR ρ h0 w → ∃ u, VR ρ v u ∧ Calls P f args w fun e w' => e = .returned u ∧ w.heap.size ≤ w'.heap.size ∧ (∀ b, b < w.heap.size → w'.heap[b]? = w.heap[b]?) ∧ w'.tape = w.tape ∧ w'.os = w.os ∧ w'.output = w.output) : OvOk P f g :=
  fun l h0 v h' hv ρ w args ha hw hl _ => by
    obtain ⟨rfl, k⟩ := h l h0 v h' hv
    obtain ⟨u, k1, k2⟩ := k ρ w args ha hw
    exact ⟨hfn, k2.mono fun e w' ⟨he, q1, q2, q3⟩ => ⟨u, ρ, he, k1, Ext.drop hw hl q1 q2 q3⟩⟩
end

/-! ### parts of code -/
def cA : Code → Code | .seq a _ => a | c => c
def cB : Code → Code | .seq _ b => b | c => c
def cBlk : Code → Code | .block _ b => b | c => c
def cLoop : Code → Code | .loop b => b | c => c
def fnBody (fn : Func) : Code := match fn.body with | some c => c | none => .skip
end Hx

/- The evaluator: calls whose results are known, over the part of the memory that they need. -/
namespace Hx
open Go

noncomputable section
/-- a written block in the place of another: an iterator over that map is good for nothing behind it -/
def ovr (k : KB) (b : Option Blk) : Blk := match k, b with
  | .map es, some (.map _ n) => .map es (Nat.succ n)
  | k, _ => k.blk
def kOver (l : List (Nat × KB)) (t : Tr Blk) : Tr Blk := List.rec (motive := fun _ => Tr Blk) t (fun p _ ih => ih.set p.1 (ovr p.2 (t.get p.1))) l

def statOne (t2 : Tr Blk) (p : Nat × KB) : Bool := match p.2, t2.get p.1 with
  | .map _, some (.map _ _) => true
  | .cells _ _, some _ => true
  | _, _ => false
def someB (b : Option Blk) : Bool := Option.rec (motive := fun _ => Bool) false (fun _ => true) b
def statK (e : Known) : Bool := (fun t1 t2 =>
  List.rec (motive := fun _ => Bool) true (fun p _ ih => statOne t2 p && ih) e.k1 &&
  List.rec (motive := fun _ => Bool) true (fun p _ ih => (someB (t1.get p.1) || Nat.ble e.n1 p.1) && ih) e.k2) (kSet e.k1) (kSet e.k2)

def plugF (e : Known) (call : CallT) : CallT := fun f l h => bif Nat.beq f e.f && eqAs2 e.l l && kSub e.k1 e.n1 h then .ok e.v ⟨kOver e.k2 h.t, e.n2⟩ else call f l h
end

section
variable {P : Program}

theorem kOver_get (t : Tr Blk) (i : Nat) : ∀ (l : List (Nat × KB)), (∃ k, (i, k) ∈ l ∧ (kSet l).get i = some k.blk ∧ (kOver l t).get i = some (ovr k (t.get i))) ∨ ((kSet l).get i = none ∧ (kOver l t).get i = t.get i)
  | [] => .inr ⟨Tr.get_nil _, rfl⟩
  | p :: l => by
    have e1 : kSet (p :: l) = (kSet l).set p.1 p.2.blk := rfl
    have e2 : kOver (p :: l) t = (kOver l t).set p.1 (ovr p.2 (t.get p.1)) := rfl
    rw [e1, e2]
    by_cases h : i = p.1
    · subst h
      exact .inl ⟨p.2, by simp, by rw [Tr.get_set_same], by rw [Tr.get_set_same]⟩
    · rw [Tr.get_set_ne _ _ h, Tr.get_set_ne _ _ h]
      rcases kOver_get t i l with ⟨k, h1, h2, h3⟩ | h0
      · exact .inl ⟨k, by simp [h1], h2, h3⟩
      · exact .inr h0

theorem stat1 {e : Known} (h : statK e = true) {i : Nat} {k : KB} (hk : (i, k) ∈ e.k1) : (∃ es, k = .map es ∧ ∃ es' v, (kSet e.k2).get i = some (.map es' v)) ∨ (∃ l wr b, k = .cells l wr ∧ (kSet e.k2).get i = some b) := by
  unfold statK at h
  simp only [Bool.and_eq_true] at h
  have h1 := h.1
  clear h
  generalize e.k1 = l at h1 hk
  induction l with
  | nil => cases hk
  | cons p l ih =>
    have h1 : (statOne (kSet e.k2) p && (List.rec (motive := fun _ => Bool) true (fun p _ ih => statOne (kSet e.k2) p && ih) l : Bool)) = true := h1
    rw [Bool.and_eq_true] at h1
    rcases List.mem_cons.1 hk with rfl | hk
    · have h2 := h1.1
      unfold statOne at h2
      split at h2
      · rename_i es _ _ _ g1 g2
        exact .inl ⟨_, g1, _, _, g2⟩
      · rename_i g1 g2
        exact .inr ⟨_, _, _, g1, g2⟩
      · cases h2
    · exact ih h1.2 hk
theorem stat2 {e : Known} (h : statK e = true) {i : Nat} {k : KB} (hk : (i, k) ∈ e.k2) : (∃ b, (kSet e.k1).get i = some b) ∨ e.n1 ≤ i := by
  unfold statK at h
  simp only [Bool.and_eq_true] at h
  have h1 := h.2
  clear h
  generalize e.k2 = l at h1 hk
  induction l with
  | nil => cases hk
  | cons p l ih =>
    have h1 : ((someB ((kSet e.k1).get p.1) || Nat.ble e.n1 p.1) && (List.rec (motive := fun _ => Bool) true (fun p _ ih => (someB ((kSet e.k1).get p.1) || Nat.ble e.n1 p.1) && ih) l : Bool)) = true := h1
    rw [Bool.and_eq_true, Bool.or_eq_true] at h1
    rcases List.mem_cons.1 hk with rfl | hk
    · rcases h1.1 with h2 | h2
      · left
        unfold someB at h2
        cases hq : (kSet e.k1).get i with
        | none => simp only [hq] at h2; cases h2
        | some b => exact ⟨b, rfl⟩
      · right
        rw [ble_nat] at h2
        simpa using h2
    · exact ih h1.2 hk

theorem plugF_ext {e : Known} (hst : statK e = true) {ρ ρ' : Ren} {h H' : Hp} {w w' : World} (hw : WR ρ h w) (_hl : Lim ρ h) (s1 : Sub (kMem e.k1 e.n1) h) (s2 : Sub (kMem e.k2 e.n2) H') (x : Ext ρ ρ' (kMem e.k1 e.n1) H' w w') : Ext ρ ρ' h ⟨kOver e.k2 h.t, e.n2⟩ w w' := by
  have lt : ∀ i k, h.t.get i = some k → i < h.next := fun i k hk => by
    rcases Nat.lt_or_ge i h.next with g | g
    · exact g
    · rw [hw.fresh i g] at hk; cases hk
  have nx1 : h.next ≤ e.n1 := s1.nx
  have nx2 : H'.next ≤ e.n2 := s2.nx
  have nx3 : e.n1 ≤ H'.next := x.hn
  -- what is not written is not in the first memory
  have out : ∀ i, (kSet e.k2).get i = none → (kSet e.k1).get i = none := fun i hi => by
    cases hq : (kSet e.k1).get i with
    | none => rfl
    | some b =>
      obtain ⟨k, h1, h2⟩ := kSet_get e.k1 i b hq
      rcases stat1 hst h1 with ⟨_, _, _, _, g⟩ | ⟨_, _, _, _, g⟩ <;> rw [hi] at g <;> cases g
  have notown : ∀ i, (kSet e.k2).get i = none → ¬ Own (kMem e.k1 e.n1) i := fun i hi ⟨b, hb, _⟩ => by
    have hb : (kSet e.k1).get i = some b := hb
    rw [out i hi] at hb; cases hb
  have stay : ∀ i b n, (kSet e.k2).get i = none → ρ i = .live b n → w'.heap[b]? = w.heap[b]? := fun i b n hi hb =>
    x.fr b (hw.bd i b n hb) fun j m hj => by
      have := hw.inj j i b m n hj hb
      subst this
      exact notown j hi
  have ownb : ∀ (k : KB) (o : Option Blk), (∀ t top, ovr k o ≠ .cells t top false) → (∀ es, ovr k o ≠ .rmap es) → (∀ t top, k.blk ≠ .cells t top false) ∧ ∀ es, k.blk ≠ .rmap es := fun k o h1 h2 => by
    cases k with
    | cells l wr => exact ⟨h1, h2⟩
    | map es => exact ⟨fun _ _ e => (by cases e), fun _ e => (by cases e)⟩
    | gone => exact ⟨fun _ _ e => (by cases e), fun _ e => (by cases e)⟩
  refine { wr := { bd := x.wr.bd, inj := x.wr.inj, blk := fun i b n q hi hq => ?_, dead := fun i q hi hq => ?_, fresh := fun i hi => ?_, all := fun i q hq => ?_ }, lim := fun i hi => x.lim i (Nat.le_trans nx2 hi), le := x.le, hn := Nat.le_trans nx1 (Nat.le_trans nx3 nx2), hs := x.hs, nw := fun i b n hi => ?_, fr := fun b hb hno => x.fr b hb fun i n hi ho => hno i n hi (ho.sub s1), ow := fun i hi ho => ?_, kp := fun i b n hi ho => x.kp i b n hi fun q => ho (q.sub s1), io := x.io }
  · -- the blocks
    have hq : (kOver e.k2 h.t).get i = some q := hq
    rcases kOver_get h.t i e.k2 with ⟨k, g0, g1, g2⟩ | ⟨g1, g2⟩
    · rw [g2] at hq
      simp only [Option.some.injEq] at hq
      subst hq
      obtain ⟨b', p1, p2⟩ := s2.blk i k.blk g1
      obtain ⟨o, p3, p4⟩ := x.wr.blk i b n b' hi p1
      have p5 : BR ρ' ⟨kOver e.k2 h.t, e.n2⟩ w' n k.blk o := p2.br p4
      refine ⟨o, p3, ?_⟩
      cases k with
      | cells l wr => exact p5
      | gone => exact p5
      | map es =>
        generalize h.t.get i = z
        cases z with
        | none => exact p5
        | some z => cases z <;> exact p5
    · rw [g2] at hq
      have hin := lt i q hq
      rcases x.nw i b n hi with p1 | ⟨p1, _⟩
      · obtain ⟨o, p2, p3⟩ := hw.blk i b n q p1 hq
        refine ⟨o, by rw [stay i b n g1 p1]; exact p2, p3.keep x.le fun r c m es ver hr hes => ?_⟩
        rcases kOver_get h.t r e.k2 with ⟨k, k0, k1, k2⟩ | ⟨k1, k2⟩
        · rcases stat2 hst k0 with ⟨b1, hb1⟩ | hb1
          · obtain ⟨kk, m1, m2⟩ := kSet_get e.k1 r b1 hb1
            obtain ⟨b2, m3, m4⟩ := s1.blk r b1 hb1
            rw [hes] at m3
            simp only [Option.some.injEq] at m3
            subst m3
            subst m2
            rcases stat1 hst m1 with ⟨es1, rfl, es2, v2, m5⟩ | ⟨l1, wr1, b3, rfl, m5⟩
            · rw [k1] at m5
              simp only [Option.some.injEq] at m5
              cases k with
              | cells l wr => cases m5
              | gone => cases m5
              | map es3 =>
                obtain ⟨b4, m6, m7⟩ := s2.blk r _ k1
                have hlive : ρ' r = .live c m := by
                  rcases x.le.1 r c m hr with g | g
                  · exact g
                  · have := x.wr.dead r b4 g m6
                    subst this
                    exact m7.elim
                refine ⟨hlive, .inr ⟨es3, ver + 1, ?_, Nat.lt_succ_self _⟩⟩
                show (kOver e.k2 h.t).get r = _
                rw [k2, hes]
                rfl
            · exact m4.elim
          · have := lt r _ hes; omega
        · refine ⟨x.kp r c m hr (notown r k1), .inl ⟨?_, stay r c m k1 hr⟩⟩
          show (kOver e.k2 h.t).get r = _
          rw [k2]; exact hes
      · have p1 : e.n1 ≤ i := p1
        omega
  · have hq : (kOver e.k2 h.t).get i = some q := hq
    rcases kOver_get h.t i e.k2 with ⟨k, g0, g1, g2⟩ | ⟨g1, g2⟩
    · rw [g2] at hq
      simp only [Option.some.injEq] at hq
      subst hq
      obtain ⟨b', p1, p2⟩ := s2.blk i k.blk g1
      have := x.wr.dead i b' hi p1
      subst this
      cases k with
      | cells l wr => exact p2.elim
      | map es => exact p2.elim
      | gone => rfl
    · rw [g2] at hq
      cases hρ : ρ i with
      | no => exact absurd hρ (hw.all i q hq)
      | dead => exact hw.dead i q hρ hq
      | live b n =>
        have := x.kp i b n hρ (notown i g1)
        rw [this] at hi; cases hi
  · show (kOver e.k2 h.t).get i = none
    have hi : e.n2 ≤ i := hi
    rcases kOver_get h.t i e.k2 with ⟨k, g0, g1, g2⟩ | ⟨g1, g2⟩
    · obtain ⟨b', p1, _⟩ := s2.blk i k.blk g1
      rw [x.wr.fresh i (by omega)] at p1; cases p1
    · rw [g2]; exact hw.fresh i (by omega)
  · have hq : (kOver e.k2 h.t).get i = some q := hq
    rcases kOver_get h.t i e.k2 with ⟨k, g0, g1, g2⟩ | ⟨g1, g2⟩
    · obtain ⟨b', p1, _⟩ := s2.blk i k.blk g1
      exact x.wr.all i b' p1
    · rw [g2] at hq
      cases hρ : ρ i with
      | no => exact absurd hρ (hw.all i q hq)
      | dead => rw [x.le.2 i hρ]; simp
      | live b n => rw [x.kp i b n hρ (notown i g1)]; simp
  · rcases x.nw i b n hi with q | ⟨q1, q2⟩
    · exact .inl q
    · refine .inr ⟨Nat.le_trans nx1 q1, ?_⟩
      rcases q2 with q2 | ⟨j, m, q2, q3⟩
      · exact .inl q2
      · exact .inr ⟨j, m, q2, q3.sub s1⟩
  · obtain ⟨q, g, h1, h2⟩ := ho
    have g : (kOver e.k2 h.t).get i = some q := g
    rcases kOver_get h.t i e.k2 with ⟨k, g0, g1, g2⟩ | ⟨g1, g2⟩
    · rw [g2] at g
      simp only [Option.some.injEq] at g
      subst g
      have ho2 : Own (kMem e.k2 e.n2) i := ⟨k.blk, g1, (ownb k _ h1 h2).1, (ownb k _ h1 h2).2⟩
      exact (x.ow i (Nat.lt_of_lt_of_le hi nx1) (ho2.sub s2)).sub s1
    · rw [g2] at g
      exact ⟨q, g, h1, h2⟩

theorem plugF_ok {call call1 : CallT} {e : Known} (hcall : CallOk P call) (hcall1 : CallOk P call1) (hst : statK e = true) (hk : knownOk call1 e = true) : CallOk P (plugF e call) := fun f l h v h' hv ρ w args ha hw hl hg => by
  unfold plugF at hv
  cases hb : (Nat.beq f e.f && eqAs2 e.l l && kSub e.k1 e.n1 h) with
  | false => rw [hb] at hv; exact hcall f l h v h' hv ρ w args ha hw hl hg
  | true =>
    rw [hb] at hv
    simp only [cond_true, Res.ok.injEq] at hv
    obtain ⟨rfl, rfl⟩ := hv
    simp only [Bool.and_eq_true] at hb
    obtain ⟨⟨b1, b2⟩, b3⟩ := hb
    have hf := beqN_true b1
    subst hf
    have hle := eqAs2_ok b2
    subst hle
    unfold knownOk at hk
    split at hk
    · rename_i v1 h1 hrun
      rw [Bool.and_eq_true] at hk
      have hv1 := eqA_ok hk.1
      subst hv1
      have s1 := kSub_ok b3
      have s2 := kSub_ok hk.2
      obtain ⟨c1, c2⟩ := hcall1 _ _ _ _ _ hrun ρ w args ha (hw.sub s1) (hl.sub s1) (hg.sub s1)
      exact ⟨c1, c2.mono fun x w' ⟨u, ρ', he, hu, hx⟩ => ⟨u, ρ', he, hu, plugF_ext hst hw hl s1 s2 hx⟩⟩
    · cases hk
end
end Hx

/- The evaluator: strings.Join in its place. -/
namespace Hx
open Go

noncomputable section
def strs? (l : List AV) : Option (List (List Nat)) := List.rec (motive := fun _ => Option (List (List Nat))) (some []) (fun v _ ih => match v with
  | .str s => (match ih with | some l => some (s :: l) | none => none)
  | _ => none) l
def joinN (sep : List Nat) (xs : List (List Nat)) : List Nat := List.rec (motive := fun _ => List Nat) [] (fun x r ih => match r with
  | [] => x
  | _ :: _ => x ++ (sep ++ ih)) xs
def joinX (l : List AV) (h : Hp) : Res := match l with
  | [.nils, .str _] => .ok (.str []) h
  | [.sl _ _ 0 _ _, .str _] => .ok (.str []) h
  | [.sl i off (n + 1) _ z, .str sep] => match cellsAt h i off (Nat.succ n) with
    | some cs => match strs? cs with
      | some xs => bif Nat.beq z 1 && Nat.ble n 1000000 && Nat.ble (lenN (joinN sep xs)) 1000000 then .ok (.str (joinN sep xs)) h else .bad [4444441]
      | none => .bad [4444442]
    | none => .bad [4444443]
  | _ => .bad [4444444]
end
end Hx

/- The evaluator: ty.Sub's Unify and copied, whatever the order of their maps; strings.Join. -/
namespace Hx
open Go

noncomputable section
/-- (*ty.Sub).Unify, c: its code: the rounds over the map change nothing -/
def xUnify (P : Program) (nt outs fuel : Nat) (c : Code) (call : CallT) : Fr → Hp → XR :=
  seqX (codeX P nt outs call fuel (cA c)) (seqX (codeX P nt outs call fuel (cA (cB c))) (seqX (codeX P nt outs call fuel (cA (cB (cB c)))) (seqX (codeX P nt outs call fuel (cA (cB (cB (cB c)))))
    (seqX (seqX (codeX P nt outs call fuel (cA (cA (cB (cB (cB (cB c)))))))
      (anyU outs 31 34 35 9 [0, 7, 31] 7 (codeX P nt outs call fuel (cB (cBlk (cB (cB (cLoop (cBlk (cB (cA (cB (cB (cB (cB c)))))))))))))
        (codeX P nt outs call fuel (cB (cA (cB (cB (cB (cB c)))))))))
      (codeX P nt outs call fuel (cB (cB (cB (cB (cB c))))))))))
/-- (*ty.Sub).copied -/
def xCopied (P : Program) (nt outs fuel : Nat) (c : Code) (call : CallT) : Fr → Hp → XR :=
  seqX (codeX P nt outs call fuel (cA c)) (seqX (codeX P nt outs call fuel (cA (cB c)))
    (seqX (seqX (codeX P nt outs call fuel (cA (cA (cB (cB c)))))
      (anyC 16 3 4 [0, 3, 16] [19, 20, 21, 5, 4, 22, 23, 24, 17, 18] (codeX P nt outs call fuel (cB (cA (cB (cB c)))))))
      (codeX P nt outs call fuel (cB (cB (cB c))))))

def plugU (P : Program) (fuel fU fC fJ : Nat) (fnU fnC : Func) (call : CallT) : CallT := fun f l h =>
  bif Nat.beq f fU then resZ P fnU (xUnify P fnU.ntmps (outsF fnU) fuel (fnBody fnU) call) l h else
  bif Nat.beq f fC then resZ P fnC (xCopied P fnC.ntmps (outsF fnC) fuel (fnBody fnC) call) l h else
  bif Nat.beq f fJ then joinX l h else stepX P fuel call f l h
def plugs (es : List Known) (call : CallT) : CallT := List.rec (motive := fun _ => CallT) call (fun e _ ih => plugF e ih) es
end
end Hx

/- The evaluator: runs over calls that are known. -/
namespace Hx
open Go

noncomputable section
abbrev I (n : Nat) : AV := .int .i64 (.ofNat n)
def tabP (g : Nat) : Nat × KB := (g, .cells (propsZ.map fun c => AV.int .u8 (Int.ofNat c)) false)
def tabQ (g : Nat) : Nat × KB := (g, .cells (powsZ.map fun c => AV.int .u64 (Int.ofNat c)) false)
/-- a run: with those calls known -/
def runK (base : CallT → CallT) (es : List Known) (n : Nat) : CallT := callP (fun ih => plugs es (base ih)) n
end

section
variable {P : Program}
/-- a call of which the truth is said -/
def Fine (P : Program) (e : Known) : Prop := ∀ call, CallOk P call → CallOk P (plugF e call)
theorem fine_of {e : Known} {call1 : CallT} (hcall1 : CallOk P call1) (hst : statK e = true) (hk : knownOk call1 e = true) : Fine P e := fun _ hcall => plugF_ok hcall hcall1 hst hk
def Fines (P : Program) (es : List Known) : Prop := ∀ e ∈ es, Fine P e
theorem Fines.nil : Fines P [] := fun _ h => by cases h
theorem Fines.cons {e : Known} {es : List Known} (h : Fine P e) (t : Fines P es) : Fines P (e :: es) := fun x hx => by
  rcases List.mem_cons.1 hx with rfl | hx
  · exact h
  · exact t x hx
theorem plugs_ok : ∀ {es : List Known}, Fines P es → ∀ {call : CallT}, CallOk P call → CallOk P (plugs es call)
  | [], _, _, h => h
  | e :: es, hf, call, h => hf e (by simp) (plugs es call) (plugs_ok (fun x hx => hf x (by simp [hx])) h)
theorem runK_ok {base : CallT → CallT} (hb : ∀ call, CallOk P call → CallOk P (base call)) {es : List Known} (hf : Fines P es) (n : Nat) : CallOk P (runK base es n) := callP_ok (fun call h => plugs_ok hf (hb call h)) n
end
end Hx
