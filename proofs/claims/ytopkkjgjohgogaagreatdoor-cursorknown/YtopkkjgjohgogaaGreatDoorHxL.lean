/- The evaluator: rows that are written and that grow. -/
import Derived.Test.YtopkkjgjohgogaaGreatDoorHxK
namespace Hx
open Go

section
variable {P : Program}

theorem setCell_at {w : World} {b e : Nat} {c : Array Value} {fr : Nat × Nat} (o : Nat) (v : Value) (hb : w.heap[b]? = some (.cells c e fr)) : At w (w.setCell ⟨b, o, none⟩ v) b (.cells (c.setIfInBounds o v) e fr) where
  here := by
    show (w.heap.modify b _)[b]? = _
    rw [Array.getElem?_modify, if_pos rfl, hb]; rfl
  other := fun d hd => by
    show (w.heap.modify b _)[d]? = _
    rw [Array.getElem?_modify, if_neg (fun e => hd e.symm)]
  size := by
    show (w.heap.modify b _).size = _
    rw [Array.size_modify]
  io := ⟨rfl, rfl, rfl⟩

theorem At.trans {w w' w'' : World} {b : Nat} {o o' : Obj} (h : At w w' b o) (k : At w' w'' b o') : At w w'' b o' :=
  ⟨k.here, fun c hc => (k.other c hc).trans (h.other c hc), k.size.trans h.size, k.io.1.trans h.io.1, k.io.2.1.trans h.io.2.1, k.io.2.2.trans h.io.2.2⟩

theorem setCells_at {b e : Nat} {fr : Nat × Nat} : ∀ (vs : List Value) (o : Nat) (w : World) (c : Array Value), w.heap[b]? = some (.cells c e fr) → o + vs.length ≤ c.size →
    ∃ c', At w (w.setCells b o vs) b (.cells c' e fr) ∧ c'.size = c.size ∧ ∀ k, c'[k]? = if o ≤ k ∧ k < o + vs.length then vs[k - o]? else c[k]?
  | [], o, w, c, hb, _ => ⟨c, ⟨hb, fun _ _ => rfl, rfl, rfl, rfl, rfl⟩, rfl, fun k => by rw [if_neg (by simp)]⟩
  | v :: vs, o, w, c, hb, hsz => by
    simp only [List.length_cons] at hsz
    have h1 := setCell_at o v hb
    obtain ⟨c', h2, h3, h4⟩ := setCells_at vs (o + 1) _ _ h1.here (by rw [Array.size_setIfInBounds]; omega)
    refine ⟨c', h1.trans h2, by rw [h3, Array.size_setIfInBounds], fun k => ?_⟩
    rw [h4 k]
    by_cases q : o + 1 ≤ k ∧ k < o + 1 + vs.length
    · rw [if_pos q, if_pos (by simp only [List.length_cons]; omega)]
      obtain ⟨j, rfl⟩ : ∃ j, k = o + 1 + j := ⟨k - (o + 1), by omega⟩
      rw [show o + 1 + j - o = j + 1 by omega, show o + 1 + j - (o + 1) = j by omega]; simp
    · rw [if_neg q, Array.getElem?_setIfInBounds]
      by_cases hk : o = k
      · subst hk
        rw [if_pos rfl, if_pos (by omega), if_pos (by simp)]; simp
      · rw [if_neg hk, if_neg (by simp only [List.length_cons]; omega)]

theorem scals_cons (v : AV) (l : List AV) : scals (v :: l) = (match scal v with | true => scals l | false => false) := by
  show Bool.rec (motive := fun _ => Bool) false (scals l) (scal v) = _
  cases scal v <;> rfl
theorem scal_one {ρ : Ren} {a : AV} {v : Value} (h : VR ρ a v) (hs : scal a = true) : v.oneCell' = true := by
  cases h <;> first | rfl | (simp [scal] at hs)
theorem scals_one {ρ : Ren} : ∀ {l : List AV} {vs : List Value}, VRs ρ l vs → scals l = true → ∀ v ∈ vs, v.oneCell' = true
  | [], _, h, _, v, hv => by cases h; simp at hv
  | a :: l, _, h, hs, v, hv => by
    cases h with
    | cons _ u _ us h1 h2 =>
      rw [scals_cons] at hs
      cases hc : scal a with
      | false => rw [hc] at hs; cases hs
      | true =>
        rw [hc] at hs
        rcases List.mem_cons.1 hv with rfl | hv
        · exact scal_one h1 hc
        · exact scals_one h2 hs v hv

/-- what is laid over a row -/
theorem BR.laid {ρ : Ren} {h : Hp} {w : World} {l : List AV} {vs : List Value} {t : Tr AV} {c c' : Array Value} {e off top n : Nat} {fr : Nat × Nat} (hl : VRs ρ l vs) (hsz : c'.size = n) (htop : top ≤ n)
    (hval : ∀ k v, k < top → ¬ (off ≤ k ∧ k < off + vs.length) → t.get k = some v → ∃ vc, c[k]? = some vc ∧ VR ρ v vc) (hfr : ∀ k, k < n → ¬ (fr.1 ≤ k ∧ k < fr.2))
    (hc' : ∀ k, c'[k]? = if off ≤ k ∧ k < off + vs.length then vs[k - off]? else c[k]?) : BR ρ h w n (.cells (setCells l t off) top true) (.cells c' e fr) := by
  refine ⟨c', e, fr, rfl, hsz, htop, fun k v hk hv => ?_, fun _ => hfr⟩
  rw [setCells_get, hl.length] at hv
  rw [hc' k]
  by_cases q : off ≤ k ∧ k < off + vs.length
  · rw [if_pos q] at hv ⊢
    exact hl.get hv
  · rw [if_neg q] at hv ⊢
    exact hval k v hk q hv

theorem store_ok {ρ : Ren} {h : Hp} {w : World} (hw : WR ρ h w) (hlm : Lim ρ h) {i b n off top : Nat} {t : Tr AV} {l : List AV} {vs : List Value} (hi : ρ i = .live b n) (hb : h.t.get i = some (.cells t top true)) (hl : VRs ρ l vs) (hs : scals l = true) (htop : off + l.length ≤ top) :
    (storeCells ⟨b, off, none⟩ vs).run P w = .ok () (w.setCells b off vs) ∧ Ext ρ ρ h (h.put i (.cells (setCells l t off) top true)) w (w.setCells b off vs) := by
  obtain ⟨c, e, fr, hc, hsz, htn, hval, hfr⟩ := hw.cells hi hb
  have hlen := hl.length
  obtain ⟨c', hat, hsz', hc'⟩ := setCells_at (fr := fr) vs off w c hc (by omega)
  constructor
  · have := run_storeCells_cells (P := P) b off vs 0 w (fun j hj => by
      have : off + j < c.size := by omega
      simp [World.cell?, hc, this]) (fun j hj => by
      have := hfr rfl (off + j) (by omega)
      obtain ⟨lo, hi⟩ := fr
      simp only [World.frozen?, hc, Nat.add_zero]
      simpa using this) (scals_one hl hs)
    rwa [Nat.add_zero] at this
  · exact Ext.put hw hlm hi hb (fun t top e => by cases e) hat (BR.laid hl (hsz'.trans hsz) htn (fun k v hk _ => hval k v hk) (hfr rfl) hc') (fun es m e => by cases e)

theorem lenV_ok {ρ : Ren} {x : AV} {u : Value} {n : Nat} (hx : VR ρ x u) (hn : lenV x = some n) (w : World) : (Builtin.lenOf u).run P w = .ok n w := by
  cases hx <;> simp only [lenV, reduceCtorEq, Option.some.injEq] at hn
  · rename_i l s hs
    subst hn
    rw [lenN_eq, ← hs, List.length_map, Array.length_toList]
    rfl
  · subst hn; rfl
  · subst hn; rfl
  · subst hn; rfl
  · subst hn; rfl

theorem firstC_ok {ρ : Ren} {h : Hp} {w : World} (hw : WR ρ h w) {x : AV} {u : Value} {esz n m : Nat} {cs : List AV} (hx : VR ρ x u) (hm : lenV x = some m) (hnm : n ≤ m) (hf : firstC esz n x h = some cs) :
    ∃ vs : List Value, VRs ρ cs vs ∧ vs.length = n * esz ∧ ∀ w' : World, w'.heap = w.heap → (Builtin.firstCells esz n u).run P w' = .ok vs.toArray w' := by
  have hcell : ∀ w' : World, w'.heap = w.heap → ∀ a, w'.cell? a = w.cell? a := fun w' e a => by unfold World.cell?; rw [e]
  cases hx <;> simp only [firstC, lenV, reduceCtorEq, Option.some.injEq] at hf hm
  · rename_i l s hs
    rw [beq_nat] at hf
    by_cases h1 : esz = 1
    · subst h1
      simp only [decide_true, cond_true, Option.some.injEq] at hf
      subst hf
      have hlen : l.length = s.size := by rw [← hs, List.length_map, Array.length_toList]; rfl
      rw [lenN_eq] at hm
      refine ⟨((s.extract 0 n).data.map fun b => Value.int .u8 b.toNat).toList, ?_, ?_, fun w' _ => ?_⟩
      · have key : ∀ (bs : List UInt8), VRs ρ (byteV (bs.map UInt8.toNat)) (bs.map fun b => Value.int .u8 (b.toNat : Int)) := by
          intro bs
          induction bs with
          | nil => exact .nil
          | cons b bs ih => exact .cons _ _ _ _ (.int _ _) ih
        have := key (s.data.toList.take n)
        rw [List.map_take, hs] at this
        simpa [ByteArray.data_extract] using this
      · have h0 : s.data.size = s.size := rfl
        simp only [ByteArray.data_extract, Array.toList_map, List.length_map, Array.length_toList, Array.size_extract]
        omega
      · simp only [Builtin.firstCells]
        rfl
    · simp [h1] at hf
  · subst hf
    refine ⟨[], .nil, ?_, fun w' _ => rfl⟩
    subst hm
    have : n = 0 := by omega
    subst this; simp
  · rename_i i off len cap z b N c hl h1 h2 h3
    subst hm
    rw [beq_nat] at hf
    by_cases hz : z = esz
    · subst hz
      simp only [decide_true, cond_true] at hf
      obtain ⟨hA, _⟩ := cellsAt_ok hw hf
      obtain ⟨vs, g1, g2, g3⟩ := hA b N hl
      refine ⟨vs, g1, g2, fun w' e => run_firstCells_some w' z n ⟨b, off, none⟩ len c vs g2 fun j v hj => ?_⟩
      rw [hcell w' e, Addr.add_lit]
      exact g3 j v hj
    · simp [hz] at hf
  · rename_i i off len cap z a c hd h1 h2
    rw [beq_nat] at hf
    by_cases hz : z = esz
    · subst hz
      simp only [decide_true, cond_true] at hf
      exact absurd hd (cellsAt_ok hw hf).2
    · simp [hz] at hf
  · rename_i i off z a hne
    subst hm
    have : n = 0 := by omega
    subst this
    rw [beq_nat] at hf
    by_cases hz : z = esz
    · subst hz
      simp only [decide_true, cond_true, Nat.zero_mul] at hf
      unfold cellsAt at hf
      split at hf
      · cases hb : Nat.ble (Nat.add off 0) _ with
        | false => rw [hb] at hf; cases hf
        | true =>
          rw [hb] at hf
          have : cs = [] := by simpa [getCells_zero] using hf.symm
          subst this
          refine ⟨[], .nil, by simp, fun w' _ => ?_⟩
          simp [Builtin.firstCells, loadCells, loadCellsFrom]
      · cases hf
    · simp [hz] at hf

/-- more elements behind a slice: what it comes to -/
theorem appV_ok {ρ : Ren} {h : Hp} {w : World} (hw : WR ρ h w) (hlm : Lim ρ h) {s : AV} {us : Value} {esz bytes n e : Nat} {cs : List AV} {vs : List Value} {R : Sem Value} {v : AV} {h' : Hp}
    (hsz : 0 < esz) (hs : VR ρ s us) (hcs : VRs ρ cs vs) (hlen : vs.length = n * esz) (hv : appV esz bytes s n cs h = .ok v h')
    (hnil : us = .slice none 0 0 → n = 0 → R.run P w = .ok (.slice none 0 0) w)
    (hfit : ∀ a len c w', us = .slice (some a) len c → len + n ≤ c → (storeCells (a.add (len * esz)) vs).run P w = .ok () w' → R.run P w = .ok (.slice (some a) (len + n) c) w')
    (hgrow : ∀ base len c (olds : Array Value), us = .slice base len c → c < len + n → len + n ≤ 16777216 → (Builtin.firstCells esz len us).run P w.drew = .ok olds w.drew →
      ∃ (m : Nat) (rest : Array Value), len + n ≤ m ∧ rest.size = (m - (len + n)) * esz ∧ R.run P w = .ok (.slice (some ⟨w.heap.size, 0, none⟩) (len + n) m) (w.drew.alloc (.cells (olds ++ vs.toArray ++ rest) e))) :
    ∃ vc w' ρ', R.run P w = .ok vc w' ∧ VR ρ' v vc ∧ Ext ρ ρ' h h' w w' := by
  have hcl : cs.length = n * esz := hcs.length.trans hlen
  unfold appV at hv
  split at hv
  · cases hs
    cases n with
    | zero =>
      have hv : Res.ok .nils h = .ok v h' := hv
      simp only [Res.ok.injEq] at hv
      obtain ⟨rfl, rfl⟩ := hv
      exact ⟨_, w, ρ, hnil rfl rfl, .nils, Ext.rfl hw hlm⟩
    | succ n =>
      have hv : (bif Nat.ble (n + 1) 16777216 && scals cs then Res.ok (.sl h.next 0 (n + 1) (n + 1) esz) (h.new (blkL cs)) else .bad []) = .ok v h' := hv
      cases hb : (Nat.ble (n + 1) 16777216 && scals cs) with
      | false => rw [hb] at hv; cases hv
      | true =>
        rw [hb] at hv
        simp only [cond_true, Res.ok.injEq] at hv
        obtain ⟨rfl, rfl⟩ := hv
        rw [ble_nat] at hb
        simp only [Bool.and_eq_true, decide_eq_true_eq] at hb
        obtain ⟨m, rest, h1, h2, h3⟩ := hgrow none 0 0 #[] rfl (by omega) (by omega) rfl
        rw [Nat.zero_add] at h1 h2 h3
        have hcsz : (#[] ++ vs.toArray ++ rest).size = m * esz := by
          simp only [Array.size_append, List.size_toArray, hlen, h2]
          have : (n + 1) * esz + (m - (n + 1)) * esz = m * esz := by rw [← Nat.add_mul]; congr 1; omega
          simpa using this
        refine ⟨_, _, _, h3, .sl _ _ _ _ _ _ _ _ (Ren.upd_same _ _ _) h1 (Nat.le_refl _) (by rw [Nat.zero_add]; exact Nat.le_refl _), Ext.new hw hlm (n := m * esz) ⟨rfl, rfl, rfl, rfl⟩ fun ρ' hle hi _ => ?_⟩
        refine ⟨_, _, _, rfl, hcsz, ?_, fun k v hk hv => ?_, fun _ k _ => by simp⟩
        · rw [lenN_eq, hcl]; exact Nat.mul_le_mul_right _ h1
        · rw [lenN_eq] at hk
          rw [ofL_get _ k hk] at hv
          obtain ⟨u, g1, g2⟩ := hcs.get hv
          refine ⟨u, ?_, g2.mono hle⟩
          have hk' : k < vs.length := by rw [← hcs.length]; exact hk
          rw [Array.getElem?_append_left (by simp; exact hk')]
          simpa using g1
  · rename_i i off len cap z
    split at hv
    · rename_i t top hb
      cases hq : (Nat.beq z esz && scals cs) with
      | false => rw [hq] at hv; cases hv
      | true =>
        rw [hq] at hv
        rw [beq_nat] at hq
        simp only [Bool.and_eq_true, decide_eq_true_eq] at hq
        obtain ⟨rfl, hsc⟩ := hq
        simp only [cond_true, ble_nat] at hv
        -- the concrete slice
        have hus : ∃ a c, us = .slice (some a) len c ∧ cap ≤ c ∧ len ≤ cap ∧ ((∃ b N, ρ i = .live b N ∧ a = ⟨b, off, none⟩ ∧ off + c * z ≤ N) ∨ (len = 0 ∧ cap = 0 ∧ c = 0 ∧ ρ i ≠ .no)) := by
          cases hs with
          | sl _ _ _ _ _ b N c hl h1 h2 h3 => exact ⟨_, c, rfl, h1, h2, .inl ⟨b, N, hl, rfl, h3⟩⟩
          | sld _ _ _ _ _ a c hd h1 h2 => exact absurd (hw.dead i _ hd hb) (by simp)
          | slz _ _ _ a hne => exact ⟨a, 0, rfl, Nat.le_refl _, Nat.le_refl _, .inr ⟨rfl, rfl, rfl, hne⟩⟩
        obtain ⟨a, c, rfl, hcap, hlcap, hus⟩ := hus
        have hlive : ∃ b N, ρ i = .live b N := by
          rcases hus with ⟨b, N, hl, _⟩ | ⟨_, _, _, hne⟩
          · exact ⟨b, N, hl⟩
          · cases hr : ρ i with
            | no => exact absurd hr hne
            | dead => exact absurd (hw.dead i _ hr hb) (by simp)
            | live b N => exact ⟨b, N, rfl⟩
        by_cases hfitq : len + n ≤ cap
        · rw [show Nat.add len n = len + n from rfl] at hv
          simp only [hfitq, decide_true, cond_true] at hv
          by_cases htop : off + (len + n) * z ≤ top
          · rw [show Nat.add off (Nat.mul (len + n) z) = off + (len + n) * z from rfl] at hv
            simp only [htop, decide_true, cond_true, Res.ok.injEq] at hv
            obtain ⟨rfl, rfl⟩ := hv
            rcases hus with ⟨b, N, hl, rfl, hoff⟩ | ⟨rfl, rfl, rfl, hne⟩
            · obtain ⟨g1, g2⟩ := store_ok (P := P) hw hlm (off := off + len * z) hl hb hcs hsc (by rw [hcl]; rw [Nat.add_mul] at htop; omega)
              refine ⟨_, _, ρ, hfit _ len c _ rfl (by omega) (by rw [Addr.add_lit]; exact g1), .sl _ _ _ _ _ b N c hl hcap hfitq hoff, g2⟩
            · have hn0 : n = 0 := by omega
              subst hn0
              obtain ⟨b, N, hl⟩ := hlive
              have hvs : vs = [] := List.eq_nil_of_length_eq_zero (by simpa using hlen)
              subst hvs
              cases hcs
              obtain ⟨g1, g2⟩ := store_ok (P := P) hw hlm (off := off + 0 * z) hl hb .nil rfl (by simpa using htop)
              refine ⟨_, w, ρ, hfit a 0 0 w rfl (Nat.le_refl _) rfl, .slz _ _ _ a hne, g2⟩
          · rw [show Nat.add off (Nat.mul (len + n) z) = off + (len + n) * z from rfl] at hv
            simp [htop] at hv
        · rw [show Nat.add len n = len + n from rfl] at hv
          simp only [hfitq, decide_false, cond_false] at hv
          cases hq : (Nat.beq off 0 && decide (len + n ≤ 16777216) && decide (Nat.mul len z ≤ top)) with
          | false => rw [hq] at hv; cases hv
          | true =>
            rw [hq] at hv
            rw [beq_nat] at hq
            simp only [Bool.and_eq_true, decide_eq_true_eq] at hq
            obtain ⟨⟨rfl, hbig⟩, htop⟩ := hq
            rw [show Nat.mul len z = len * z from rfl] at htop
            simp only [cond_true, Res.ok.injEq] at hv
            obtain ⟨rfl, rfl⟩ := hv
            obtain ⟨b, N, hl⟩ := hlive
            obtain ⟨ca, ce, fr, hca, hcaN, htN, hval, hfr⟩ := hw.cells hl hb
            have hmul : (len + n) * z = len * z + n * z := Nat.add_mul _ _ _
            by_cases hin : len + n ≤ c
            · -- there is room in the row
              rcases hus with ⟨b', N', hl', rfl, hoff⟩ | ⟨rfl, rfl, rfl, hne⟩
              · rw [hl] at hl'
                simp only [Slot.live.injEq] at hl'
                obtain ⟨rfl, rfl⟩ := hl'
                have hcN : (len + n) * z ≤ N := Nat.le_trans (Nat.mul_le_mul_right _ hin) (by omega)
                obtain ⟨c', hat, hsz', hc'⟩ := setCells_at (fr := fr) vs (len * z) w ca hca (by omega)
                have hst := run_storeCells_cells (P := P) b (len * z) vs 0 w (fun j hj => by
                    have : len * z + j < ca.size := by omega
                    simp [World.cell?, hca, this]) (fun j hj => by
                    have := hfr rfl (len * z + j) (by omega)
                    obtain ⟨lo, hi⟩ := fr
                    simp only [World.frozen?, hca, Nat.add_zero]
                    simpa using this) (scals_one hcs hsc)
                rw [Nat.add_zero] at hst
                refine ⟨_, _, _, hfit _ len c _ rfl hin (by rw [Addr.add_lit, Nat.zero_add]; exact hst), .sl _ _ _ _ _ b N c (Ren.upd_same _ _ _) hin (Nat.le_refl _) hoff, Ext.move hw hlm hl hb (.inl ⟨rfl, hat⟩) fun ρ' h'' hle => ?_⟩
                exact BR.laid (hcs.mono hle) (hsz'.trans hcaN) (by rw [show Nat.mul (len + n) z = (len + n) * z from rfl]; exact hcN) (t := t) (c := ca) (fun k v hk hq hv => by
                  have hk : k < (len + n) * z := hk
                  have hq : ¬ (len * z ≤ k ∧ k < len * z + vs.length) := hq
                  obtain ⟨u, g1, g2⟩ := hval k v (by omega) hv
                  exact ⟨u, g1, g2.mono hle⟩) (hfr rfl) hc'
              · omega
            · -- there is a new row
              have hold : (Builtin.firstCells z len (.slice (some a) len c)).run P w.drew = .ok (ca.extract 0 (len * z)) w.drew := by
                rcases hus with ⟨b', N', hl', rfl, hoff⟩ | ⟨rfl, rfl, rfl, hne⟩
                · rw [hl] at hl'
                  simp only [Slot.live.injEq] at hl'
                  obtain ⟨rfl, rfl⟩ := hl'
                  have := run_firstCells_some (P := P) w.drew z len ⟨b, 0, none⟩ len c (ca.extract 0 (len * z)).toList (by simp; omega) (fun j v hj => by
                    rw [Addr.add_lit, Nat.zero_add]
                    have hj' : (ca.extract 0 (len * z))[j]? = some v := by rw [← Array.getElem?_toList]; exact hj
                    rw [Array.getElem?_extract] at hj'
                    split at hj'
                    · rw [Nat.zero_add] at hj'
                      show w.cell? ⟨b, j, none⟩ = some v
                      simp [World.cell?, hca, hj']
                    · cases hj')
                  rw [this]
                · simp [Builtin.firstCells, loadCells, loadCellsFrom]
              obtain ⟨m, rest, g1, g2, g3⟩ := hgrow (some a) len c _ rfl (by omega) hbig hold
              have hexs : (ca.extract 0 (len * z)).size = len * z := by simp; omega
              have hcsz : (ca.extract 0 (len * z) ++ vs.toArray ++ rest).size = m * z := by
                simp only [Array.size_append, List.size_toArray, hlen, g2, hexs]
                have : (len + n) * z + (m - (len + n)) * z = m * z := by rw [← Nat.add_mul]; congr 1; omega
                omega
              refine ⟨_, _, _, g3, .sl _ _ _ _ _ _ _ _ (Ren.upd_same _ _ _) g1 (Nat.le_refl _) (by rw [Nat.zero_add]; exact Nat.le_refl _), Ext.move (n' := m * z) hw hlm hl hb (.inr ⟨rfl, ⟨rfl, rfl, rfl, rfl⟩⟩) fun ρ' h'' hle => ?_⟩
              refine BR.laid (c := ca.extract 0 (len * z) ++ vs.toArray ++ rest) (hcs.mono hle) hcsz (Nat.mul_le_mul_right _ g1) (fun k v hk hq hv => ?_) (fun k _ => by simp) (fun k => ?_)
              · have hk : k < (len + n) * z := hk
                have hq : ¬ (len * z ≤ k ∧ k < len * z + vs.length) := hq
                obtain ⟨u, q1, q2⟩ := hval k v (by omega) hv
                refine ⟨u, ?_, q2.mono hle⟩
                rw [Array.append_assoc, Array.getElem?_append_left (by omega), Array.getElem?_extract, if_pos (by omega), Nat.zero_add]
                exact q1
              · by_cases q : len * z ≤ k ∧ k < len * z + vs.length
                · rw [show Nat.mul len z = len * z from rfl, if_pos q, Array.getElem?_append_left (by simp only [Array.size_append, List.size_toArray]; omega), Array.getElem?_append_right (by omega), hexs]
                  simp
                · rw [show Nat.mul len z = len * z from rfl, if_neg q]
    · cases hv
  · cases hv
end
end Hx
