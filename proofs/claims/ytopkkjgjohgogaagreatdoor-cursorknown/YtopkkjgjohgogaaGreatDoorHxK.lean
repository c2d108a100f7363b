/- The evaluator: what an act leaves of the world. -/
import Derived.Test.YtopkkjgjohgogaaGreatDoorHxJ
namespace Hx
open Go

def Ren.upd (ρ : Ren) (i : Nat) (s : Slot) : Ren := fun j => if j = i then s else ρ j
theorem Ren.upd_same (ρ : Ren) (i : Nat) (s : Slot) : ρ.upd i s i = s := by simp [Ren.upd]
theorem Ren.upd_ne (ρ : Ren) {i j : Nat} (s : Slot) (h : j ≠ i) : ρ.upd i s j = ρ j := by simp [Ren.upd, h]

/-- no number is used that was not given yet -/
def Lim (ρ : Ren) (h : Hp) : Prop := ∀ i, h.next ≤ i → ρ i = .no

/-- may it be written? -/
def Own (h : Hp) (i : Nat) : Prop := ∃ k, h.t.get i = some k ∧ (∀ t top, k ≠ .cells t top false) ∧ ∀ es, k ≠ .rmap es

structure Ext (ρ ρ' : Ren) (h h' : Hp) (w w' : World) : Prop where
  wr : WR ρ' h' w'
  lim : Lim ρ' h'
  le : ρ.le ρ'
  hn : h.next ≤ h'.next
  hs : w.heap.size ≤ w'.heap.size
  nw : ∀ i b n, ρ' i = .live b n → ρ i = .live b n ∨ (h.next ≤ i ∧ (w.heap.size ≤ b ∨ ∃ j m, ρ j = .live b m ∧ Own h j))
  fr : ∀ b, b < w.heap.size → (∀ i n, ρ i = .live b n → ¬ Own h i) → w'.heap[b]? = w.heap[b]?
  ow : ∀ i, i < h.next → Own h' i → Own h i
  kp : ∀ i b n, ρ i = .live b n → ¬ Own h i → ρ' i = .live b n
  io : w'.tape = w.tape ∧ w'.os = w.os ∧ w'.output = w.output

theorem Lim.lt {ρ : Ren} {h : Hp} (hl : Lim ρ h) {i b n : Nat} (hi : ρ i = .live b n) : i < h.next := by
  rcases Nat.lt_or_ge i h.next with g | g
  · exact g
  · rw [hl i g] at hi; cases hi
theorem Own.lt {ρ : Ren} {h : Hp} {w : World} (hw : WR ρ h w) {i : Nat} (ho : Own h i) : i < h.next := by
  rcases Nat.lt_or_ge i h.next with g | g
  · exact g
  · obtain ⟨k, hk, _⟩ := ho
    rw [hw.fresh i g] at hk; cases hk

theorem Ext.rfl {ρ : Ren} {h : Hp} {w : World} (hw : WR ρ h w) (hl : Lim ρ h) : Ext ρ ρ h h w w :=
  ⟨hw, hl, Ren.le_refl _, Nat.le_refl _, Nat.le_refl _, fun _ _ _ h => .inl h, fun _ _ _ => Eq.refl _, fun _ _ h => h, fun _ _ _ h _ => h, Eq.refl _, Eq.refl _, Eq.refl _⟩

theorem Ext.trans {ρ ρ' ρ'' : Ren} {h h' h'' : Hp} {w w' w'' : World} (hl : Lim ρ h) (a : Ext ρ ρ' h h' w w') (b : Ext ρ' ρ'' h' h'' w' w'') : Ext ρ ρ'' h h'' w w'' where
  wr := b.wr
  lim := b.lim
  le := Ren.le_trans a.le b.le
  hn := Nat.le_trans a.hn b.hn
  hs := Nat.le_trans a.hs b.hs
  nw := fun i c n hi => by
    rcases b.nw i c n hi with g | ⟨g1, g2⟩
    · exact a.nw i c n g
    · refine .inr ⟨Nat.le_trans a.hn g1, ?_⟩
      rcases g2 with g2 | ⟨j, m, hj, ho⟩
      · exact .inl (Nat.le_trans a.hs g2)
      · rcases a.nw j c m hj with q | ⟨_, q⟩
        · exact .inr ⟨j, m, q, a.ow j (hl.lt q) ho⟩
        · exact q
  fr := fun c hc hno => by
    have h1 := a.fr c hc hno
    rw [← h1]
    refine b.fr c (Nat.lt_of_lt_of_le hc a.hs) fun i n hi ho => ?_
    rcases a.nw i c n hi with q | ⟨_, q | ⟨j, m, q, qo⟩⟩
    · exact hno i n q (a.ow i (hl.lt q) ho)
    · omega
    · exact hno j m q qo
  ow := fun i hi ho => a.ow i hi (b.ow i (Nat.lt_of_lt_of_le hi a.hn) ho)
  kp := fun i c n hi ho => b.kp i c n (a.kp i c n hi ho) fun q => ho (a.ow i (hl.lt hi) q)
  io := ⟨b.io.1.trans a.io.1, b.io.2.1.trans a.io.2.1, b.io.2.2.trans a.io.2.2⟩

/-- the heap is another at one block alone -/
structure At (w w' : World) (b : Nat) (o : Obj) : Prop where
  here : w'.heap[b]? = some o
  other : ∀ c, c ≠ b → w'.heap[c]? = w.heap[c]?
  size : w'.heap.size = w.heap.size
  io : w'.tape = w.tape ∧ w'.os = w.os ∧ w'.output = w.output

/-- there is one block more -/
structure More (w w' : World) (o : Obj) : Prop where
  heap : w'.heap = w.heap.push o
  io : w'.tape = w.tape ∧ w'.os = w.os ∧ w'.output = w.output

theorem More.here {w w' : World} {o : Obj} (h : More w w' o) : w'.heap[w.heap.size]? = some o := by rw [h.heap]; simp
theorem More.other {w w' : World} {o : Obj} (h : More w w' o) {c : Nat} (hc : c < w.heap.size) : w'.heap[c]? = w.heap[c]? := by
  rw [h.heap, Array.getElem?_push_lt hc]; simp [hc]
theorem More.size {w w' : World} {o : Obj} (h : More w w' o) : w'.heap.size = w.heap.size + 1 := by rw [h.heap]; simp

theorem BR.keep {ρ ρ' : Ren} {h h' : Hp} {w w' : World} (hle : ρ.le ρ')
    (hmap : ∀ r b m es ver, ρ r = .live b m → h.t.get r = some (.map es ver) → ρ' r = .live b m ∧ ((h'.t.get r = some (.map es ver) ∧ w'.heap[b]? = w.heap[b]?) ∨ ∃ es' ver', h'.t.get r = some (.map es' ver') ∧ ver < ver'))
    {n : Nat} {k : Blk} {o : Obj} (hb : BR ρ h w n k o) : BR ρ' h' w' n k o := by
  cases k with
  | cells t top wr =>
    obtain ⟨c, e, fr, h1, h2, h3, h4, h5⟩ := hb
    refine ⟨c, e, fr, h1, h2, h3, fun k v hk hv => ?_, h5⟩
    obtain ⟨vc, g1, g2⟩ := h4 k v hk hv
    exact ⟨vc, g1, g2.mono hle⟩
  | map es ver =>
    obtain ⟨ces, clock, h1, h2, h3, h4⟩ := hb
    exact ⟨ces, clock, h1, h2.mono hle, h3, h4⟩
  | rmap es =>
    obtain ⟨ces, clock, h1, h2, h3, h4⟩ := hb
    exact ⟨ces, clock, h1, h2.mono hle, h3, h4⟩
  | siter s pos => exact hb
  | miter m left cur =>
    cases m with
    | none => exact hb
    | some rv =>
      obtain ⟨r, ver⟩ := rv
      obtain ⟨b, since, seen, stepped, es, m, h1, ⟨n, hn⟩, h2, h3, h4⟩ := hb
      obtain ⟨q1, q2⟩ := hmap r b n es m hn h2
      rcases q2 with ⟨q2, q3⟩ | ⟨es', ver', q2, q3⟩
      · refine ⟨b, since, seen, stepped, es, m, h1, ⟨n, q1⟩, q2, h3, fun e => ?_⟩
        have := (h4 e).mono hle
        unfold IR at this ⊢
        rw [q3]; exact this
      · exact ⟨b, since, seen, stepped, es', ver', h1, ⟨n, q1⟩, q2, by omega, fun e => by omega⟩
  | gone => trivial

theorem put_get_same (h : Hp) (i : Nat) (k : Blk) : (h.put i k).t.get i = some k := Tr.get_set_same _ _ _
theorem put_get_ne (h : Hp) {i j : Nat} (k : Blk) (hj : j ≠ i) : (h.put i k).t.get j = h.t.get j := Tr.get_set_ne _ _ hj
theorem new_get_same (h : Hp) (k : Blk) : (h.new k).t.get h.next = some k := Tr.get_set_same _ _ _
theorem new_get_ne (h : Hp) {j : Nat} (k : Blk) (hj : j ≠ h.next) : (h.new k).t.get j = h.t.get j := Tr.get_set_ne _ _ hj

/-- a block is written -/
theorem Ext.put {ρ : Ren} {h : Hp} {w w' : World} {i b n : Nat} {k k' : Blk} {o : Obj} (hw : WR ρ h w) (hl : Lim ρ h) (hi : ρ i = .live b n) (hk : h.t.get i = some k) (hown : ∀ t top, k ≠ .cells t top false)
    (hat : At w w' b o) (hnew : BR ρ (h.put i k') w' n k' o) (hver : ∀ es m, k = .map es m → ∃ es' m', k' = .map es' m' ∧ m < m') (hrm : ∀ es, k ≠ .rmap es := by simp) : Ext ρ ρ h (h.put i k') w w' where
  wr :=
    { bd := fun j c m hj => by rw [hat.size]; exact hw.bd j c m hj
      inj := hw.inj
      blk := fun j c m q hj hq => by
        by_cases hji : j = i
        · subst hji
          rw [put_get_same] at hq
          simp only [Option.some.injEq] at hq; subst hq
          rw [hi] at hj
          simp only [Slot.live.injEq] at hj
          obtain ⟨rfl, rfl⟩ := hj
          exact ⟨o, hat.here, hnew⟩
        · rw [put_get_ne h _ hji] at hq
          obtain ⟨o', h1, h2⟩ := hw.blk j c m q hj hq
          have hcb : c ≠ b := fun e => hji (hw.inj j i b m n (e ▸ hj) hi)
          refine ⟨o', by rw [hat.other c hcb]; exact h1, h2.keep (Ren.le_refl _) fun r d m' es ver hr hes => ⟨hr, ?_⟩⟩
          by_cases hri : r = i
          · subst hri
            rw [hk] at hes
            simp only [Option.some.injEq] at hes
            obtain ⟨es', m', g1, g2⟩ := hver es ver hes
            exact .inr ⟨es', m', by rw [put_get_same, g1], g2⟩
          · refine .inl ⟨by rw [put_get_ne h _ hri]; exact hes, hat.other d fun e => hri (hw.inj r i b m' n (e ▸ hr) hi)⟩
      dead := fun j q hj hq => by
        have hji : j ≠ i := fun e => by rw [e, hi] at hj; cases hj
        rw [put_get_ne h _ hji] at hq
        exact hw.dead j q hj hq
      fresh := fun j hj => by
        have hji : j ≠ i := fun e => by rw [e] at hj; rw [hw.fresh i hj] at hk; cases hk
        rw [put_get_ne h _ hji]
        exact hw.fresh j hj
      all := fun j q hq => by
        by_cases hji : j = i
        · rw [hji, hi]; simp
        · rw [put_get_ne h _ hji] at hq
          exact hw.all j q hq }
  lim := hl
  le := Ren.le_refl _
  hn := Nat.le_refl _
  hs := by rw [hat.size]; exact Nat.le_refl _
  nw := fun _ _ _ h => .inl h
  fr := fun c hc hno => hat.other c fun e => hno i n (e ▸ hi) ⟨k, hk, hown, hrm⟩
  ow := fun j hj ho => by
    by_cases hji : j = i
    · subst hji; exact ⟨k, hk, hown, hrm⟩
    · obtain ⟨q, h1, h2⟩ := ho
      rw [put_get_ne h _ hji] at h1
      exact ⟨q, h1, h2⟩
  kp := fun _ _ _ h _ => h
  io := hat.io

theorem Ren.le_upd {ρ : Ren} {i : Nat} (h : ρ i = .no) (s : Slot) : ρ.le (ρ.upd i s) :=
  ⟨fun j b n hj => .inl (by rw [Ren.upd_ne]; exact hj; intro e; rw [e, h] at hj; cases hj), fun j hj => by rw [Ren.upd_ne]; exact hj; intro e; rw [e, h] at hj; cases hj⟩

/-- a block is made -/
theorem Ext.new {ρ : Ren} {h : Hp} {w w' : World} {n : Nat} {k : Blk} {o : Obj} (hw : WR ρ h w) (hl : Lim ρ h) (hm : More w w' o)
    (hnew : ∀ ρ', ρ.le ρ' → ρ' h.next = .live w.heap.size n → (∀ j, j ≠ h.next → ρ' j = ρ j) → BR ρ' (h.new k) w' n k o) : Ext ρ (ρ.upd h.next (.live w.heap.size n)) h (h.new k) w w' where
  wr :=
    { bd := fun j c m hj => by
        rw [hm.size]
        by_cases hjn : j = h.next
        · subst hjn
          rw [Ren.upd_same] at hj
          simp only [Slot.live.injEq] at hj; omega
        · rw [Ren.upd_ne _ _ hjn] at hj
          have := hw.bd j c m hj; omega
      inj := fun i j c m m' h1 h2 => by
        by_cases hin : i = h.next
        · by_cases hjn : j = h.next
          · rw [hin, hjn]
          · subst hin
            rw [Ren.upd_same] at h1
            rw [Ren.upd_ne _ _ hjn] at h2
            simp only [Slot.live.injEq] at h1
            have := hw.bd j c _ h2; omega
        · by_cases hjn : j = h.next
          · subst hjn
            rw [Ren.upd_same] at h2
            rw [Ren.upd_ne _ _ hin] at h1
            simp only [Slot.live.injEq] at h2
            have := hw.bd i c _ h1; omega
          · rw [Ren.upd_ne _ _ hin] at h1
            rw [Ren.upd_ne _ _ hjn] at h2
            exact hw.inj i j c m m' h1 h2
      blk := fun j c m q hj hq => by
        by_cases hjn : j = h.next
        · subst hjn
          rw [Ren.upd_same] at hj
          rw [new_get_same] at hq
          simp only [Slot.live.injEq] at hj
          simp only [Option.some.injEq] at hq
          obtain ⟨rfl, rfl⟩ := hj
          subst hq
          exact ⟨o, hm.here, hnew _ (Ren.le_upd (hl _ (Nat.le_refl _)) _) (Ren.upd_same _ _ _) fun j hj => Ren.upd_ne _ _ hj⟩
        · rw [Ren.upd_ne _ _ hjn] at hj
          rw [new_get_ne h _ hjn] at hq
          obtain ⟨o', h1, h2⟩ := hw.blk j c m q hj hq
          refine ⟨o', by rw [hm.other (hw.bd j c m hj)]; exact h1, h2.keep (Ren.le_upd (hl _ (Nat.le_refl _)) _) fun r d m' es ver hr hes => ?_⟩
          have hrn : r ≠ h.next := fun e => by have := hl.lt hr; omega
          exact ⟨by rw [Ren.upd_ne _ _ hrn]; exact hr, .inl ⟨by rw [new_get_ne h _ hrn]; exact hes, hm.other (hw.bd r d m' hr)⟩⟩
      dead := fun j q hj hq => by
        have hjn : j ≠ h.next := fun e => by rw [e, Ren.upd_same] at hj; cases hj
        rw [Ren.upd_ne _ _ hjn] at hj
        rw [new_get_ne h _ hjn] at hq
        exact hw.dead j q hj hq
      fresh := fun j hj => by
        have hj' : h.next + 1 ≤ j := hj
        rw [new_get_ne h _ (by omega)]
        exact hw.fresh j (by omega)
      all := fun j q hq => by
        by_cases hjn : j = h.next
        · rw [hjn, Ren.upd_same]; simp
        · rw [new_get_ne h _ hjn] at hq
          rw [Ren.upd_ne _ _ hjn]
          exact hw.all j q hq }
  lim := fun j hj => by
    have hj' : h.next + 1 ≤ j := hj
    rw [Ren.upd_ne _ _ (by omega)]
    exact hl j (by omega)
  le := Ren.le_upd (hl _ (Nat.le_refl _)) _
  hn := Nat.le_succ _
  hs := by rw [hm.size]; omega
  nw := fun j c m hj => by
    by_cases hjn : j = h.next
    · subst hjn
      rw [Ren.upd_same] at hj
      simp only [Slot.live.injEq] at hj
      exact .inr ⟨Nat.le_refl _, .inl (by omega)⟩
    · rw [Ren.upd_ne _ _ hjn] at hj
      exact .inl hj
  fr := fun c hc _ => hm.other hc
  ow := fun j hj ho => by
    obtain ⟨q, h1, h2⟩ := ho
    rw [new_get_ne h _ (by omega)] at h1
    exact ⟨q, h1, h2⟩
  kp := fun j c m hj _ => by
    have : j ≠ h.next := fun e => by have := hl.lt hj; omega
    rw [Ren.upd_ne _ _ this]; exact hj
  io := hm.io

/-- a row grows out of its block: its number is dropped, there is a new one -/
theorem Ext.move {ρ : Ren} {h : Hp} {w w' : World} {i b n b' n' : Nat} {k : Blk} {o : Obj} {t : Tr AV} {top : Nat} (hw : WR ρ h w) (hl : Lim ρ h) (hi : ρ i = .live b n) (hk : h.t.get i = some (.cells t top true))
    (hat : (b' = b ∧ At w w' b o) ∨ (b' = w.heap.size ∧ More w w' o))
    (hnew : ∀ ρ' h', ρ.le ρ' → BR ρ' h' w' n' k o) :
    Ext ρ ((ρ.upd i .dead).upd h.next (.live b' n')) h ⟨(h.t.set i .gone).set h.next k, Nat.succ h.next⟩ w w' := by
  have hin : i ≠ h.next := fun e => by have := hl.lt hi; omega
  have e1 : ∀ j, j ≠ h.next → j ≠ i → ((ρ.upd i .dead).upd h.next (.live b' n')) j = ρ j := fun j h1 h2 => by rw [Ren.upd_ne _ _ h1, Ren.upd_ne _ _ h2]
  have e2 : ((ρ.upd i .dead).upd h.next (.live b' n')) i = .dead := by rw [Ren.upd_ne _ _ hin, Ren.upd_same]
  have e3 : ((ρ.upd i .dead).upd h.next (.live b' n')) h.next = .live b' n' := Ren.upd_same _ _ _
  have g1 : ∀ j, j ≠ h.next → j ≠ i → ((h.t.set i .gone).set h.next k).get j = h.t.get j := fun j h1 h2 => by rw [Tr.get_set_ne _ _ h1, Tr.get_set_ne _ _ h2]
  have g2 : ((h.t.set i .gone).set h.next k).get i = some .gone := by rw [Tr.get_set_ne _ _ hin, Tr.get_set_same]
  have g3 : ((h.t.set i .gone).set h.next k).get h.next = some k := Tr.get_set_same _ _ _
  generalize hρ' : ((ρ.upd i .dead).upd h.next (.live b' n')) = ρ' at e1 e2 e3 ⊢
  generalize hT : (h.t.set i .gone).set h.next k = T at g1 g2 g3 ⊢
  have hn0 : ρ h.next = .no := hl _ (Nat.le_refl _)
  have hle : ρ.le ρ' := by
    refine ⟨fun j c m hj => ?_, fun j hj => ?_⟩
    · by_cases hji : j = i
      · subst hji; exact .inr e2
      · exact .inl (by rw [e1 j (fun e => by rw [e, hn0] at hj; cases hj) hji]; exact hj)
    · by_cases hji : j = i
      · subst hji; rw [hi] at hj; cases hj
      · rw [e1 j (fun e => by rw [e, hn0] at hj; cases hj) hji]; exact hj
  have old : ∀ j c m, ρ' j = .live c m → (j = h.next ∧ c = b' ∧ m = n') ∨ (j ≠ h.next ∧ j ≠ i ∧ ρ j = .live c m) := fun j c m hj => by
    by_cases hjn : j = h.next
    · subst hjn; rw [e3] at hj; simp only [Slot.live.injEq] at hj; exact .inl ⟨Eq.refl _, hj.1.symm, hj.2.symm⟩
    · by_cases hji : j = i
      · subst hji; rw [e2] at hj; cases hj
      · exact .inr ⟨hjn, hji, by rw [← e1 j hjn hji]; exact hj⟩
  have hsz : w.heap.size ≤ w'.heap.size := by
    rcases hat with ⟨_, h2⟩ | ⟨_, h2⟩
    · rw [h2.size]; exact Nat.le_refl _
    · rw [h2.size]; omega
  have hhere : w'.heap[b']? = some o := by
    rcases hat with ⟨rfl, h2⟩ | ⟨rfl, h2⟩
    · exact h2.here
    · exact h2.here
  have hb' : ∀ j c m, j ≠ i → ρ j = .live c m → c ≠ b' := fun j c m hj hc e => by
    rcases hat with ⟨rfl, _⟩ | ⟨rfl, _⟩
    · exact hj (hw.inj j i c m n hc (by rw [e]; exact hi))
    · have := hw.bd j c m hc; omega
  have hoth : ∀ j c m, j ≠ i → ρ j = .live c m → w'.heap[c]? = w.heap[c]? := fun j c m hj hc => by
    rcases hat with ⟨rfl, h2⟩ | ⟨rfl, h2⟩
    · exact h2.other c (hb' j c m hj hc)
    · exact h2.other (hw.bd j c m hc)
  have hbb : b' < w'.heap.size := by
    rcases Nat.lt_or_ge b' w'.heap.size with g | g
    · exact g
    · rw [Array.getElem?_eq_none g] at hhere; cases hhere
  refine { wr := { bd := ?_, inj := ?_, blk := ?_, dead := ?_, fresh := ?_, all := ?_ }, lim := ?_, le := hle, hn := Nat.le_succ _, hs := hsz, nw := ?_, fr := ?_, ow := ?_, kp := ?_, io := ?_ }
  · intro j c m hj
    rcases old j c m hj with ⟨_, rfl, _⟩ | ⟨_, _, q⟩
    · exact hbb
    · exact Nat.lt_of_lt_of_le (hw.bd j c m q) hsz
  · intro p j c m m' h1 h2
    rcases old p c m h1 with ⟨rfl, rfl, _⟩ | ⟨_, q1, q2⟩
    · rcases old j _ m' h2 with ⟨rfl, _⟩ | ⟨_, q1, q2⟩
      · exact Eq.refl _
      · exact absurd (Eq.refl _) (hb' j _ m' q1 q2)
    · rcases old j _ m' h2 with ⟨rfl, rfl, _⟩ | ⟨_, q3, q4⟩
      · exact absurd (Eq.refl _) (hb' p _ m q1 q2)
      · exact hw.inj p j c m m' q2 q4
  · intro j c m q hj hq
    rcases old j c m hj with ⟨rfl, rfl, rfl⟩ | ⟨q0, q1, q2⟩
    · rw [g3] at hq
      simp only [Option.some.injEq] at hq; subst hq
      exact ⟨o, hhere, hnew _ _ hle⟩
    · rw [g1 j q0 q1] at hq
      obtain ⟨o', h1, h2⟩ := hw.blk j c m q q2 hq
      refine ⟨o', by rw [hoth j c m q1 q2]; exact h1, h2.keep hle fun r d m' es ver hr hes => ?_⟩
      have hri : r ≠ i := fun e => by rw [e, hk] at hes; cases hes
      have hrn : r ≠ h.next := fun e => by rw [e, hn0] at hr; cases hr
      exact ⟨by rw [e1 r hrn hri]; exact hr, .inl ⟨by rw [g1 r hrn hri]; exact hes, hoth r d m' hri hr⟩⟩
  · intro j q hj hq
    by_cases hjn : j = h.next
    · subst hjn; rw [e3] at hj; cases hj
    · by_cases hji : j = i
      · subst hji; rw [g2] at hq; simp only [Option.some.injEq] at hq; exact hq.symm
      · rw [e1 j hjn hji] at hj
        rw [g1 j hjn hji] at hq
        exact hw.dead j q hj hq
  · intro j hj
    have hj' : h.next + 1 ≤ j := hj
    rw [g1 j (by omega) (fun e => by have := hl.lt hi; omega)]
    exact hw.fresh j (by omega)
  · intro j q hq
    by_cases hjn : j = h.next
    · rw [hjn, e3]; simp
    · by_cases hji : j = i
      · rw [hji, e2]; simp
      · rw [g1 j hjn hji] at hq
        rw [e1 j hjn hji]
        exact hw.all j q hq
  · intro j hj
    have hj' : h.next + 1 ≤ j := hj
    rw [e1 j (by omega) (fun e => by have := hl.lt hi; omega)]
    exact hl j (by omega)
  · intro j c m hj
    rcases old j c m hj with ⟨rfl, rfl, _⟩ | ⟨_, _, q⟩
    · refine .inr ⟨Nat.le_refl _, ?_⟩
      rcases hat with ⟨rfl, _⟩ | ⟨rfl, _⟩
      · exact .inr ⟨i, n, hi, _, hk, fun t top e => (by cases e), fun es e => (by cases e)⟩
      · exact .inl (Nat.le_refl _)
    · exact .inl q
  · intro c hc hno
    rcases hat with ⟨rfl, h2⟩ | ⟨rfl, h2⟩
    · exact h2.other c fun e => hno i n (by rw [e]; exact hi) ⟨_, hk, fun t top e => (by cases e), fun es e => (by cases e)⟩
    · exact h2.other hc
  · intro j hj ho
    by_cases hji : j = i
    · subst hji; exact ⟨_, hk, fun t top e => (by cases e), fun es e => (by cases e)⟩
    · obtain ⟨q, h1, h2⟩ := ho
      rw [g1 j (by omega) hji] at h1
      exact ⟨q, h1, h2⟩
  · intro j c m hj ho
    have hji : j ≠ i := fun e => ho (by rw [e]; exact ⟨_, hk, fun t top e => (by cases e), fun es e => (by cases e)⟩)
    rw [e1 j (fun e => by rw [e, hn0] at hj; cases hj) hji]; exact hj
  · rcases hat with ⟨_, h2⟩ | ⟨_, h2⟩
    · exact h2.io
    · exact h2.io
end Hx
