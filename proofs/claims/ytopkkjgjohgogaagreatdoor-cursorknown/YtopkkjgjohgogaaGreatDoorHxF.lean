/- The evaluator: worldless operations: slices, fields, indexes; all of them. -/
import Derived.Test.YtopkkjgjohgogaaGreatDoorHxE
namespace Hx
open Go

section
variable {P : Program}

theorem nat?_ok {ρ : Ren} {x : AV} {v : Value} {n : Nat} (hx : VR ρ x v) (h : nat? x = some n) : ∃ k, v = .int k (n : Int) := by
  unfold nat? at h
  split at h
  · cases hx; simp only [Option.some.injEq] at h; subst h; exact ⟨_, rfl⟩
  · cases h

theorem bound_ok {k : IntKind} {n y : Nat} {code : BoundsCode} {w : World} (h : n ≤ y) : (Instr.sliceBound (.int k (n : Int)) y code).run P w = .ok n w := by
  unfold Instr.sliceBound
  simp only [asIntOf, Sem.run_bind, Sem.run_pure, Result.andThen_ok]
  rw [if_pos ⟨by omega, by omega⟩]
  simp

theorem bnd_none {F : Fr} {L : List AV} {d m n : Nat} (h : bnd F L none d m = some n) : n = d := by simpa [bnd] using h.symm
theorem bnd_some {ρ : Ren} {F : Fr} {L : List AV} {x : XO} {v : Value} {d m n : Nat} (hv : VR ρ (ev F L x) v) (h : bnd F L (some x) d m = some n) : (∃ k, v = .int k (n : Int)) ∧ n ≤ m := by
  unfold bnd at h
  cases hn : nat? (ev F L x) with
  | none => simp [hn] at h
  | some q =>
    simp only [hn] at h
    rw [ble_nat] at h
    by_cases hq : q ≤ m
    · simp only [hq, decide_true, cond_true, Option.some.injEq] at h
      subst h
      exact ⟨nat?_ok hv hn, hq⟩
    · simp [hq] at h

/-- the bounds of a cut -/
theorem bounds_ok {ρ : Ren} {F : Fr} {L : List AV} {ds : List (Option Nat)} {g : Operand → Value} {lo hi mx : Option Operand} {isS : Bool} {len cap ccap m h l : Nat} {w : World}
    (hlo : ∀ x, lo = some x → VR ρ (ev F L (co ds x)) (g x)) (hhi : ∀ x, hi = some x → VR ρ (ev F L (co ds x)) (g x)) (hmx : ∀ x, mx = some x → VR ρ (ev F L (co ds x)) (g x))
    (hc : cap ≤ ccap) (hl : len ≤ cap) (hm' : ¬ (mx ≠ none ∧ hi = none))
    (h1 : bnd F L (mx.map (co ds)) cap cap = some m) (h2 : bnd F L (hi.map (co ds)) len m = some h) (h3 : bnd F L (lo.map (co ds)) 0 h = some l) :
    ∃ mc, (Instr.sliceBounds isS len ccap (lo.map g) (hi.map g) (mx.map g)).run P w = .ok (l, h, mc) w ∧ l ≤ h ∧ h ≤ m ∧ m ≤ mc ∧ mc ≤ ccap := by
  have low : ((lo = none ∧ l = 0) ∨ ∃ x k, lo = some x ∧ g x = .int k (l : Int)) ∧ l ≤ h := by
    cases lo with
    | none => have := bnd_none h3; subst this; exact ⟨.inl ⟨rfl, rfl⟩, by omega⟩
    | some x =>
      obtain ⟨⟨k, hk⟩, hle⟩ := bnd_some (hlo x rfl) h3
      exact ⟨.inr ⟨x, k, rfl, hk⟩, hle⟩
  obtain ⟨low, hlh⟩ := low
  unfold Instr.sliceBounds
  cases mx with
  | none =>
    have := bnd_none h1; subst this
    cases hi with
    | none =>
      have := bnd_none h2; subst this
      refine ⟨ccap, ?_, hlh, hl, hc, Nat.le_refl _⟩
      rcases low with ⟨rfl, rfl⟩ | ⟨x, k, rfl, hk⟩
      · simp only [Option.map_none, Sem.run_bind, Sem.run_pure, Result.andThen_ok]
      · simp only [Option.map_none, Option.map_some, hk, Sem.run_bind, Sem.run_pure, Result.andThen_ok, Option.isSome_none, Bool.false_eq_true, if_false, bound_ok (P := P) (w := w) (k := k) hlh]
    | some x =>
      obtain ⟨⟨k, hk⟩, hle⟩ := bnd_some (hhi x rfl) h2
      refine ⟨ccap, ?_, hlh, hle, hc, Nat.le_refl _⟩
      rcases low with ⟨rfl, rfl⟩ | ⟨x', k', rfl, hk'⟩
      · simp only [Option.map_none, Option.map_some, hk, Sem.run_bind, Sem.run_pure, Result.andThen_ok, bound_ok (P := P) (w := w) (k := k) (Nat.le_trans hle hc)]
      · simp only [Option.map_none, Option.map_some, hk, hk', Sem.run_bind, Sem.run_pure, Result.andThen_ok, Option.isSome_none, Bool.false_eq_true, if_false, bound_ok (P := P) (w := w) (k := k) (Nat.le_trans hle hc), bound_ok (P := P) (w := w) (k := k') hlh]
  | some y =>
    cases hi with
    | none => exact absurd ⟨by simp, rfl⟩ hm'
    | some x =>
      obtain ⟨⟨k, hk⟩, hle⟩ := bnd_some (hhi x rfl) h2
      obtain ⟨⟨k', hk'⟩, hle'⟩ := bnd_some (hmx y rfl) h1
      refine ⟨m, ?_, hlh, hle, Nat.le_refl _, Nat.le_trans hle' hc⟩
      rcases low with ⟨rfl, rfl⟩ | ⟨x', k2, rfl, hk2⟩
      · simp only [Option.map_none, Option.map_some, hk, hk', Sem.run_bind, Sem.run_pure, Result.andThen_ok, bound_ok (P := P) (w := w) (k := k) hle, bound_ok (P := P) (w := w) (k := k') (Nat.le_trans hle' hc)]
      · simp only [Option.map_some, hk, hk', hk2, Sem.run_bind, Sem.run_pure, Result.andThen_ok, Option.isSome_some, if_true, bound_ok (P := P) (w := w) (k := k) hle, bound_ok (P := P) (w := w) (k := k') (Nat.le_trans hle' hc), bound_ok (P := P) (w := w) (k := k2) hlh]

theorem add_eq (b off k : Nat) : (⟨b, off, none⟩ : Addr).add k = ⟨b, off + k, none⟩ := by
  unfold Addr.add; split
  · rename_i h; subst h; rfl
  · rfl

theorem sizeOf_ok {t n : Nat} (h : szT P t = some n) (w : World) : (Go.sizeOf t).run P w = .ok n w := by
  obtain ⟨i, hi, rfl⟩ := szT_info h
  simp [Go.sizeOf, typeInfo, hi]

theorem slc_ok {ρ : Ren} {F : Fr} {L : List AV} {ds : List (Option Nat)} {g : Operand → Value} {lo hi mx : Option Operand} {t e esz : Nat} {x : AV} {u : Value} {v : AV} {w : World}
    (hu : P.underlying t = some (.slice e)) (hs : szT P e = some esz) (hx : VR ρ x u)
    (hlo : ∀ x, lo = some x → VR ρ (ev F L (co ds x)) (g x)) (hhi : ∀ x, hi = some x → VR ρ (ev F L (co ds x)) (g x)) (hmx : ∀ x, mx = some x → VR ρ (ev F L (co ds x)) (g x))
    (hv : slcV esz F L x (lo.map (co ds)) (hi.map (co ds)) (mx.map (co ds)) = some v) :
    ∃ vc, (Instr.sliceAt t u (lo.map g) (hi.map g) (mx.map g)).run P w = .ok vc w ∧ VR ρ v vc := by
  have red : ∀ (a : Option Addr) (len cap : Nat) (l h m : Nat), (Instr.sliceBounds true len cap (lo.map g) (hi.map g) (mx.map g)).run P w = .ok (l, h, m) w →
      (Instr.sliceAt t (.slice a len cap) (lo.map g) (hi.map g) (mx.map g)).run P w = .ok (.slice (if m = l then a else a.map (·.add (l * esz))) (h - l) (m - l)) w := by
    intro a len cap l h m hb
    unfold Instr.sliceAt Instr.slice
    simp only [Sem.run_bind, run_underlying hu, Result.andThen_ok, hb, sizeOf_ok hs w, Sem.run_pure]
  unfold slcV at hv
  split at hv
  · rename_i i off len cap z
    cases hm : bnd F L (mx.map (co ds)) cap cap with
    | none => rw [hm] at hv; cases hv
    | some m =>
      rw [hm] at hv; simp only at hv
      cases hh : bnd F L (hi.map (co ds)) len m with
      | none => rw [hh] at hv; cases hv
      | some h =>
        rw [hh] at hv; simp only at hv
        cases hl : bnd F L (lo.map (co ds)) 0 h with
        | none => rw [hl] at hv; cases hv
        | some l =>
          rw [hl] at hv; simp only at hv
          cases hz : (Nat.beq z esz && okMx (mx.map (co ds)) (hi.map (co ds))) with
          | false => rw [hz] at hv; cases hv
          | true =>
            rw [hz] at hv
            simp only [cond_true, Option.some.injEq] at hv
            subst hv
            rw [beq_nat] at hz
            simp only [Bool.and_eq_true, decide_eq_true_eq] at hz
            obtain ⟨rfl, hmh⟩ := hz
            have hm' : ¬ (mx ≠ none ∧ hi = none) := by rintro ⟨h1, h2⟩; cases mx with | none => exact h1 rfl | some _ => subst h2; cases hmh
            cases hx with
            | sl _ _ _ _ _ b n c hlive hc1 hc2 hc3 =>
              obtain ⟨mc, hrun, k1, k2, k3, k4⟩ := bounds_ok (P := P) (isS := true) (w := w) hlo hhi hmx hc1 hc2 hm' hm hh hl
              refine ⟨_, red _ _ _ _ _ _ hrun, ?_⟩
              by_cases he : mc = l
              · subst he
                have e1 : h = mc := by omega
                have e2 : m = mc := by omega
                subst e1; subst e2
                simp only [if_true, Nat.sub_self, show ∀ q : Nat, Nat.sub q q = 0 from Nat.sub_self]
                exact .slz _ _ _ _ (by rw [hlive]; simp)
              · rw [if_neg he]
                simp only [Option.map_some, add_eq]
                refine .sl _ _ _ _ _ b n _ hlive ?_ ?_ ?_
                · show m - l ≤ mc - l; omega
                · show h - l ≤ m - l; omega
                · show off + l * z + (mc - l) * z ≤ n
                  have : l * z + (mc - l) * z = mc * z := by rw [← Nat.add_mul]; congr 1; omega
                  have : mc * z ≤ c * z := Nat.mul_le_mul_right _ k4
                  omega
            | sld _ _ _ _ _ a c hdead hc1 hc2 =>
              obtain ⟨mc, hrun, k1, k2, k3, k4⟩ := bounds_ok (P := P) (isS := true) (w := w) hlo hhi hmx hc1 hc2 hm' hm hh hl
              refine ⟨_, red _ _ _ _ _ _ hrun, ?_⟩
              by_cases he : mc = l
              · rw [if_pos he]; exact .sld _ _ _ _ _ _ _ hdead (by show m - l ≤ mc - l; omega) (by show h - l ≤ m - l; omega)
              · rw [if_neg he]; exact .sld _ _ _ _ _ _ _ hdead (by show m - l ≤ mc - l; omega) (by show h - l ≤ m - l; omega)
            | slz _ _ _ a hno =>
              obtain ⟨mc, hrun, k1, k2, k3, k4⟩ := bounds_ok (P := P) (isS := true) (w := w) hlo hhi hmx (Nat.le_refl 0) (Nat.le_refl 0) hm' hm hh hl
              refine ⟨_, red _ _ _ _ _ _ hrun, ?_⟩
              have e1 : mc = 0 := by omega
              have e2 : l = 0 := by omega
              have e3 : h = 0 := by omega
              have e4 : m = 0 := by omega
              subst e1; subst e2; subst e3; subst e4
              simp only [if_true]
              exact .slz _ _ _ _ hno
  · cases hx
    cases hm : bnd F L (mx.map (co ds)) 0 0 with
    | none => rw [hm] at hv; cases hv
    | some m =>
      rw [hm] at hv; simp only at hv
      cases hh : bnd F L (hi.map (co ds)) 0 m with
      | none => rw [hh] at hv; cases hv
      | some h =>
        rw [hh] at hv; simp only at hv
        cases hl : bnd F L (lo.map (co ds)) 0 h with
        | none => rw [hl] at hv; cases hv
        | some l =>
          rw [hl] at hv; simp only at hv
          cases hz : okMx (mx.map (co ds)) (hi.map (co ds)) with
          | false => rw [hz] at hv; cases hv
          | true =>
          rw [hz] at hv
          simp only [cond_true, Option.some.injEq] at hv
          subst hv
          have hm' : ¬ (mx ≠ none ∧ hi = none) := by rintro ⟨h1, h2⟩; cases mx with | none => exact h1 rfl | some _ => subst h2; cases hz
          obtain ⟨mc, hrun, k1, k2, k3, k4⟩ := bounds_ok (P := P) (isS := true) (w := w) hlo hhi hmx (Nat.le_refl 0) (Nat.le_refl 0) hm' hm hh hl
          refine ⟨_, red _ _ _ _ _ _ hrun, ?_⟩
          have e1 : mc = 0 := by omega
          have e2 : l = 0 := by omega
          have e3 : h = 0 := by omega
          subst e1; subst e2; subst e3
          simp only [if_true, Nat.sub_self]
          exact .nils
  · cases hv

theorem sls_ok {ρ : Ren} {F : Fr} {L : List AV} {ds : List (Option Nat)} {g : Operand → Value} {lo hi : Option Operand} {t : Nat} {x : AV} {u : Value} {v : AV} {w : World}
    (hu : P.underlying t = some .string) (hx : VR ρ x u)
    (hlo : ∀ x, lo = some x → VR ρ (ev F L (co ds x)) (g x)) (hhi : ∀ x, hi = some x → VR ρ (ev F L (co ds x)) (g x))
    (hv : slsV F L x (lo.map (co ds)) (hi.map (co ds)) = some v) :
    ∃ vc, (Instr.sliceAt t u (lo.map g) (hi.map g) none).run P w = .ok vc w ∧ VR ρ v vc := by
  unfold slsV at hv
  split at hv
  · rename_i s
    cases hx
    rename_i bs hbs
    rw [lenN_eq] at hv
    cases hh : bnd F L (hi.map (co ds)) s.length s.length with
    | none => rw [hh] at hv; cases hv
    | some h =>
      rw [hh] at hv; simp only at hv
      cases hl : bnd F L (lo.map (co ds)) 0 h with
      | none => rw [hl] at hv; cases hv
      | some l =>
        rw [hl] at hv; simp only [Option.some.injEq] at hv
        subst hv
        have hlen : bs.size = s.length := by rw [← hbs]; simp
        obtain ⟨mc, hrun, k1, k2, k3, k4⟩ := bounds_ok (P := P) (isS := false) (w := w) (mx := none) (F := F) (L := L) (m := s.length) hlo hhi (by simp) (Nat.le_refl s.length) (Nat.le_refl s.length) (by simp) (by simp [bnd]) hh hl
        refine ⟨.string (bs.extract l h), ?_, .str _ _ ?_⟩
        · unfold Instr.sliceAt Instr.slice
          simp only [Sem.run_bind, run_underlying hu, Result.andThen_ok, Option.isSome_none, Bool.false_eq_true, if_false, hlen]
          have : (Option.map g none : Option Value) = none := rfl
          rw [this] at hrun
          simp only [hrun, Result.andThen_ok, Sem.run_pure]
        · subst hbs
          simp only [ByteArray.data_extract, Array.toList_extract, List.extract_eq_take_drop, List.map_take, List.map_drop]
          rfl
  · cases hv
end
end Hx
