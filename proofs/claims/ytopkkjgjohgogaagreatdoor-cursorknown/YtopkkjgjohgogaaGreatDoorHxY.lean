/- The evaluator: memories that know less; calls whose results are known; calls that others stand in for. -/
import Derived.Test.YtopkkjgjohgogaaGreatDoorHxX
namespace Hx
open Go

section
variable {P : Program}

/-- the first block says no more than the second -/
def SubB (b b' : Blk) : Prop := match b, b' with
  | .cells t top wr, .cells t' top' wr' => (wr = true → wr' = true) ∧ top ≤ top' ∧ ∀ k v, k < top → t.get k = some v → v = .bot ∨ t'.get k = some v
  | .map es _, .map es' _ => es = es'
  | .rmap es, .map es' _ => es = es'
  | .rmap es, .rmap es' => es = es'
  | .gone, b' => (∀ t top, b' ≠ .cells t top false) ∧ ∀ es, b' ≠ .rmap es
  | _, _ => False

/-- the first memory says no more than the second -/
structure Sub (k h : Hp) : Prop where
  nx : h.next ≤ k.next
  blk : ∀ i b, k.t.get i = some b → ∃ b', h.t.get i = some b' ∧ SubB b b'

theorem SubB.br {ρ : Ren} {k h : Hp} {w : World} {n : Nat} {b b' : Blk} {o : Obj} (hs : SubB b b') (hb : BR ρ h w n b' o) : BR ρ k w n b o := by
  cases b <;> cases b' <;> first | exact hs.elim | trivial | skip
  · rename_i t top wr t' top' wr'
    obtain ⟨h1, h2, h3⟩ := hs
    obtain ⟨c, e, fr, g1, g2, g3, g4, g5⟩ := hb
    refine ⟨c, e, fr, g1, g2, Nat.le_trans h2 g3, fun j v hj hv => ?_, fun q => g5 (h1 q)⟩
    rcases h3 j v hj hv with rfl | q
    · have hj' : j < c.size := by omega
      exact ⟨c[j], by simp [hj'], .bot _⟩
    · exact g4 j v (by omega) q
  · have hs : _ = _ := hs
    subst hs; exact hb
  · have hs : _ = _ := hs
    subst hs; exact hb
  · have hs : _ = _ := hs
    subst hs; exact hb

theorem WR.sub {ρ : Ren} {k h : Hp} {w : World} (hw : WR ρ h w) (hs : Sub k h) : WR ρ k w where
  bd := hw.bd
  inj := hw.inj
  blk := fun i b n q hi hq => by
    obtain ⟨b', h1, h2⟩ := hs.blk i q hq
    obtain ⟨o, g1, g2⟩ := hw.blk i b n b' hi h1
    exact ⟨o, g1, h2.br g2⟩
  dead := fun i q hi hq => by
    obtain ⟨b', h1, h2⟩ := hs.blk i q hq
    have := hw.dead i b' hi h1
    subst this
    cases q <;> first | exact h2.elim | rfl
  fresh := fun i hi => by
    cases hq : k.t.get i with
    | none => rfl
    | some q =>
      obtain ⟨b', h1, _⟩ := hs.blk i q hq
      rw [hw.fresh i (Nat.le_trans hs.nx hi)] at h1; cases h1
  all := fun i q hq => by
    obtain ⟨b', h1, _⟩ := hs.blk i q hq
    exact hw.all i b' h1

theorem Lim.sub {ρ : Ren} {k h : Hp} (hl : Lim ρ h) (hs : Sub k h) : Lim ρ k := fun i hi => hl i (Nat.le_trans hs.nx hi)
theorem Own.sub {k h : Hp} (hs : Sub k h) {i : Nat} (ho : Own k i) : Own h i := by
  obtain ⟨q, h1, h2, h3⟩ := ho
  obtain ⟨b', g1, g2⟩ := hs.blk i q h1
  by_cases hq : q = .gone
  · subst hq
    exact ⟨b', g1, g2.1, g2.2⟩
  cases q <;> cases b' <;> first | exact g2.elim | exact absurd rfl hq | skip
  · rename_i t top wr t' top' wr'
    have : wr = true := by
      cases wr with
      | true => rfl
      | false => exact absurd rfl (h2 t top)
    have hw' := g2.1 this
    subst hw'
    exact ⟨_, g1, fun _ _ e => (by cases e), fun _ e => (by cases e)⟩
  · exact ⟨_, g1, fun _ _ e => (by cases e), fun _ e => (by cases e)⟩
  · exact absurd rfl (h3 _)
  · exact absurd rfl (h3 _)
theorem Gl.sub {ρ : Ren} {k h : Hp} (hg : Gl ρ h) (hs : Sub k h) : Gl ρ k := fun g h8 => ⟨(hg g h8).1, fun q => (hg g h8).2 (q.sub hs)⟩

theorem Ext.subL {ρ ρ' : Ren} {k h h' : Hp} {w w' : World} (hs : Sub k h) (e : Ext ρ ρ' k h' w w') : Ext ρ ρ' h h' w w' where
  wr := e.wr
  lim := e.lim
  le := e.le
  hn := Nat.le_trans hs.nx e.hn
  hs := e.hs
  nw := fun i b n hi => by
    rcases e.nw i b n hi with q | ⟨q1, q2⟩
    · exact .inl q
    · refine .inr ⟨Nat.le_trans hs.nx q1, ?_⟩
      rcases q2 with q2 | ⟨j, m, q2, q3⟩
      · exact .inl q2
      · exact .inr ⟨j, m, q2, q3.sub hs⟩
  fr := fun b hb hno => e.fr b hb fun i n hi ho => hno i n hi (ho.sub hs)
  ow := fun i hi ho => (e.ow i (Nat.lt_of_lt_of_le hi hs.nx) ho).sub hs
  kp := fun i b n hi ho => e.kp i b n hi fun q => ho (q.sub hs)
  io := e.io

theorem Ext.subR {ρ ρ' : Ren} {k h h' : Hp} {w w' : World} (hs : Sub k h') (e : Ext ρ ρ' h h' w w') : Ext ρ ρ' h k w w' where
  wr := e.wr.sub hs
  lim := e.lim.sub hs
  le := e.le
  hn := Nat.le_trans e.hn hs.nx
  hs := e.hs
  nw := e.nw
  fr := e.fr
  ow := fun i hi ho => e.ow i hi (ho.sub hs)
  kp := e.kp
  io := e.io
end

/-! ### memories that are written out -/
inductive KB where
  | cells (l : List AV) (wr : Bool)
  | map (es : List (AV × AV))
  | gone

noncomputable section
def KB.blk (k : KB) : Blk := KB.rec (motive := fun _ => Blk) (fun l wr => .cells (ofL l) (lenN l) wr) (fun es => .map es 0) .gone k
def kSet (l : List (Nat × KB)) : Tr Blk := List.rec (motive := fun _ => Tr Blk) .nil (fun p _ ih => ih.set p.1 p.2.blk) l
def kMem (l : List (Nat × KB)) (next : Nat) : Hp := ⟨kSet l, next⟩

def cellLe (v : AV) (o : Option AV) : Bool := match v with
  | .bot => true
  | v => match o with
    | some u => eqA v u
    | none => false
def cellsLe (l : List AV) (t : Tr AV) : Nat → Bool :=
  List.rec (motive := fun _ => Nat → Bool) (fun _ => true) (fun v _ ih off => cellLe v (t.get off) && ih (Nat.succ off)) l
def mapLe (a : List (AV × AV)) : List (AV × AV) → Bool :=
  List.rec (motive := fun _ => List (AV × AV) → Bool) (fun b => List.rec (motive := fun _ => Bool) true (fun _ _ _ => false) b)
    (fun x _ ih b => List.rec (motive := fun _ => Bool) false (fun y bs _ => eqA x.1 y.1 && eqA x.2 y.2 && ih bs) b) a
def kbLe (k : KB) (b : Blk) : Bool := match k, b with
  | .cells l wr, .cells t top w => (bif wr then w else true) && Nat.ble (lenN l) top && cellsLe l t (nat_lit 0)
  | .map es, .map es' _ => mapLe es es'
  | .gone, .cells _ _ true => true
  | .gone, .map _ _ => true
  | .gone, .siter _ _ => true
  | .gone, .miter _ _ _ => true
  | .gone, .gone => true
  | _, _ => false
def kSub (l : List (Nat × KB)) (next : Nat) (h : Hp) : Bool :=
  Nat.ble h.next next && List.rec (motive := fun _ => Bool) true (fun p _ ih => (match h.t.get p.1 with | some b => kbLe p.2 b | none => false) && ih) l

theorem kSet_get : ∀ (l : List (Nat × KB)) (i : Nat) (b : Blk), (kSet l).get i = some b → ∃ k, (i, k) ∈ l ∧ b = k.blk
  | [], i, b, h => by cases h
  | p :: l, i, b, h => by
    have h : ((kSet l).set p.1 p.2.blk).get i = some b := h
    rw [Tr.get_set] at h
    by_cases hi : i = p.1
    · rw [if_pos hi] at h
      simp only [Option.some.injEq] at h
      exact ⟨p.2, by rw [hi]; simp, h.symm⟩
    · rw [if_neg hi] at h
      obtain ⟨k, h1, h2⟩ := kSet_get l i b h
      exact ⟨k, by simp [h1], h2⟩

theorem cellsLe_ok : ∀ (l : List AV) (t : Tr AV) (off : Nat), cellsLe l t off = true → ∀ j v, l[j]? = some v → v = .bot ∨ t.get (off + j) = some v
  | [], _, _, _, j, v, h => by simp at h
  | x :: l, t, off, h, j, v, hj => by
    have h : (cellLe x (t.get off) && cellsLe l t (off + 1)) = true := h
    rw [Bool.and_eq_true] at h
    cases j with
    | zero =>
      have : x = v := by simpa using hj
      subst this
      have h1 := h.1
      unfold cellLe at h1
      split at h1
      · exact .inl rfl
      · split at h1
        · rename_i u hu
          rw [Nat.add_zero, hu, eqA_ok h1]
          exact .inr rfl
        · cases h1
    | succ j =>
      have := cellsLe_ok l t (off + 1) h.2 j v (by simpa using hj)
      rw [show off + (j + 1) = off + 1 + j by omega]
      exact this

theorem mapLe_ok : ∀ (a b : List (AV × AV)), mapLe a b = true → a = b
  | [], [], _ => rfl
  | [], _ :: _, h => by cases h
  | _ :: _, [], h => by cases h
  | x :: a, y :: b, h => by
    have h : (eqA x.1 y.1 && eqA x.2 y.2 && mapLe a b) = true := h
    simp only [Bool.and_eq_true] at h
    rw [mapLe_ok a b h.2]
    have h1 := eqA_ok h.1.1
    have h2 := eqA_ok h.1.2
    obtain ⟨x1, x2⟩ := x
    obtain ⟨y1, y2⟩ := y
    simp only at h1 h2
    rw [h1, h2]

theorem kbLe_ok {k : KB} {b : Blk} (h : kbLe k b = true) : SubB k.blk b := by
  unfold kbLe at h
  split at h
  · rename_i l wr t top w
    simp only [Bool.and_eq_true] at h
    obtain ⟨⟨h1, h2⟩, h3⟩ := h
    rw [ble_nat] at h2
    refine ⟨fun q => ?_, by simpa using h2, fun j v hj hv => ?_⟩
    · have q : wr = true := q
      subst q
      simpa using h1
    · have hj : j < lenN l := hj
      rw [lenN_eq] at hj
      have hv : (ofL l).get j = some v := hv
      rw [ofL_get l j hj] at hv
      have := cellsLe_ok l t 0 h3 j v hv
      rwa [Nat.zero_add] at this
  · exact mapLe_ok _ _ h
  all_goals first
    | exact ⟨fun _ _ e => (by cases e), fun _ e => (by cases e)⟩
    | cases h

theorem kSub_ok {l : List (Nat × KB)} {next : Nat} {h : Hp} (hk : kSub l next h = true) : Sub (kMem l next) h := by
  unfold kSub at hk
  rw [Bool.and_eq_true, ble_nat] at hk
  refine ⟨by show h.next ≤ next; simpa using hk.1, fun i b hb => ?_⟩
  obtain ⟨k, h1, rfl⟩ := kSet_get l i b hb
  have h2 := hk.2
  clear hb hk
  have key : ∀ (l : List (Nat × KB)), (List.rec (motive := fun _ => Bool) true (fun p _ ih => (match h.t.get p.1 with | some b => kbLe p.2 b | none => false) && ih) l : Bool) = true → ∀ p ∈ l, ∃ b, h.t.get p.1 = some b ∧ kbLe p.2 b = true := by
    intro l
    induction l with
    | nil => intro _ p hp; cases hp
    | cons q l ih =>
      intro hq p hp
      have hq : ((match h.t.get q.1 with | some b => kbLe q.2 b | none => false) && (List.rec (motive := fun _ => Bool) true (fun p _ ih => (match h.t.get p.1 with | some b => kbLe p.2 b | none => false) && ih) l : Bool)) = true := hq
      rw [Bool.and_eq_true] at hq
      rcases List.mem_cons.1 hp with rfl | hp
      · have h1 := hq.1
        split at h1
        · rename_i b hb; exact ⟨b, hb, h1⟩
        · cases h1
      · exact ih hq.2 p hp
  obtain ⟨b', g1, g2⟩ := key l h2 (i, k) h1
  exact ⟨b', g1, kbLe_ok g2⟩

/-! ### calls that are known -/
structure Known where
  f : Nat
  l : List AV
  k1 : List (Nat × KB)
  n1 : Nat
  v : AV
  k2 : List (Nat × KB)
  n2 : Nat

/-- does the call come to what is said of it? -/
def knownOk (call : CallT) (e : Known) : Bool := match call e.f e.l (kMem e.k1 e.n1) with
  | .ok v h => eqA e.v v && kSub e.k2 e.n2 h
  | .bad _ => false

def plugK (e : Known) (call : CallT) : CallT := fun f l h => bif Nat.beq f e.f && eqAs2 e.l l && kSub e.k1 e.n1 h then .ok e.v (kMem e.k2 e.n2) else call f l h

theorem plugK_ok {P : Program} {call call1 : CallT} {e : Known} (hcall : CallOk P call) (hcall1 : CallOk P call1) (hk : knownOk call1 e = true) : CallOk P (plugK e call) := fun f l h v h' hv ρ w args ha hw hl hg => by
  unfold plugK at hv
  cases hb : (Nat.beq f e.f && eqAs2 e.l l && kSub e.k1 e.n1 h) with
  | false => rw [hb] at hv; exact hcall f l h v h' hv ρ w args ha hw hl hg
  | true =>
    rw [hb] at hv
    simp only [cond_true, Res.ok.injEq] at hv
    obtain ⟨rfl, rfl⟩ := hv
    simp only [Bool.and_eq_true] at hb
    obtain ⟨⟨b1, b2⟩, b3⟩ := hb
    have hf := beqN_true b1
    subst hf
    have hle := eqAs2_ok b2
    subst hle
    unfold knownOk at hk
    split at hk
    · rename_i v1 h1 hrun
      rw [Bool.and_eq_true] at hk
      have hv1 := eqA_ok hk.1
      subst hv1
      have s1 := kSub_ok b3
      have s2 := kSub_ok hk.2
      obtain ⟨c1, c2⟩ := hcall1 _ _ _ _ _ hrun ρ w args ha (hw.sub s1) (hl.sub s1) (hg.sub s1)
      refine ⟨c1, c2.mono fun x w' ⟨u, ρ', he, hu, hx⟩ => ⟨u, ρ', he, hu, (hx.subL s1).subR s2⟩⟩
    · cases hk

/-! ### calls, with others in the place of some -/
def callP (plug : CallT → CallT) (n : Nat) : CallT := Nat.rec (motive := fun _ => CallT) (fun _ _ _ => .bad []) (fun _ ih => plug ih) n
theorem callP_ok {P : Program} {plug : CallT → CallT} (hp : ∀ call, CallOk P call → CallOk P (plug call)) : ∀ n, CallOk P (callP plug n)
  | 0 => fun _ _ _ _ _ h => by cases h
  | n + 1 => hp _ (callP_ok hp n)
end
end Hx
