/- The evaluator: regions that draw their order: what the reference run is. -/
import Derived.Test.YtopkkjgjohgogaaGreatDoorHxP
namespace Hx
open Go

section
variable {P : Program}

/-- of a renaming, what lies below n -/
def Ren.cut (ρ : Ren) (n : Nat) : Ren := fun i => if i < n then ρ i else .no
theorem Ren.cut_lt (ρ : Ren) {n i : Nat} (h : i < n) : ρ.cut n i = ρ i := by simp [Ren.cut, h]

theorem low0_ok {ρ : Ren} {n : Nat} {v : AV} {u : Value} (h : low0 n v = true) (hv : VR ρ v u) : VR (ρ.cut n) v u := by
  unfold low0 at h
  cases hv with
  | bot => exact .bot _
  | bool => exact .bool _
  | int => exact .int _ _
  | str _ _ hs => exact .str _ _ hs
  | nilp => exact .nilp
  | ptr i off b m hl => (have h : Nat.blt i n = true := h); rw [blt_nat] at h; exact .ptr _ _ _ _ (by rw [Ren.cut_lt _ (of_decide_eq_true h)]; exact hl)
  | ptrd i off a hl => (have h : Nat.blt i n = true := h); rw [blt_nat] at h; exact .ptrd _ _ _ (by rw [Ren.cut_lt _ (of_decide_eq_true h)]; exact hl)
  | nils => exact .nils
  | sl i off len cap esz b m c hl h1 h2 h3 => (have h : Nat.blt i n = true := h); rw [blt_nat] at h; exact .sl _ _ _ _ _ _ _ _ (by rw [Ren.cut_lt _ (of_decide_eq_true h)]; exact hl) h1 h2 h3
  | sld i off len cap esz a c hl h1 h2 => (have h : Nat.blt i n = true := h); rw [blt_nat] at h; exact .sld _ _ _ _ _ _ _ (by rw [Ren.cut_lt _ (of_decide_eq_true h)]; exact hl) h1 h2
  | slz i off esz a hl => (have h : Nat.blt i n = true := h); rw [blt_nat] at h; exact .slz _ _ _ _ (by rw [Ren.cut_lt _ (of_decide_eq_true h)]; exact hl)
  | nilm => exact .nilm
  | map i b m hl => (have h : Nat.blt i n = true := h); rw [blt_nat] at h; exact .map _ _ _ (by rw [Ren.cut_lt _ (of_decide_eq_true h)]; exact hl)
  | mapd i b hl => (have h : Nat.blt i n = true := h); rw [blt_nat] at h; exact .mapd _ _ (by rw [Ren.cut_lt _ (of_decide_eq_true h)]; exact hl)
  | func f caps captured hc =>
    cases caps with
    | nil => exact .func _ _ _ (by generalize captured.toList = cl at hc ⊢; cases hc; exact .nil)
    | cons => cases h
  | nilf => exact .nilf
  | ifc => cases h
  | nili => exact .nili
  | agg => cases h
  | tup => cases h

theorem low1_ok {ρ : Ren} {n : Nat} {v : AV} {u : Value} (h : low1 n v = true) (hv : VR ρ v u) : VR (ρ.cut n) v u := by
  unfold low1 at h
  split at h
  · cases hv with
    | ifc _ _ _ hu => exact .ifc _ _ _ (low0_ok h hu)
  · exact low0_ok h hv

theorem lowL1_cons (n : Nat) (v : AV) (l : List AV) : lowL1 n (v :: l) = (low1 n v && lowL1 n l) := rfl
theorem lowL1_ok {ρ : Ren} {n : Nat} : ∀ {l : List AV} {us : List Value}, lowL1 n l = true → VRs ρ l us → VRs (ρ.cut n) l us
  | [], _, _, h => by cases h; exact .nil
  | v :: l, _, hl, h => by
    cases h with
    | cons _ _ _ _ h1 h2 =>
      rw [lowL1_cons, Bool.and_eq_true] at hl
      exact .cons _ _ _ _ (low1_ok hl.1 h1) (lowL1_ok hl.2 h2)

theorem low2_ok {ρ : Ren} {n : Nat} {v : AV} {u : Value} (h : low2 n v = true) (hv : VR ρ v u) : VR (ρ.cut n) v u := by
  unfold low2 at h
  split at h
  · cases hv with
    | agg _ _ hu => exact .agg _ _ (lowL1_ok h hu)
  · cases hv with
    | func _ _ _ hu => exact .func _ _ _ (lowL1_ok h hu)
  · exact low1_ok h hv

theorem lowL2_cons (n : Nat) (v : AV) (l : List AV) : lowL2 n (v :: l) = (low2 n v && lowL2 n l) := rfl
theorem lowL2_ok {ρ : Ren} {n : Nat} : ∀ {l : List AV} {us : List Value}, lowL2 n l = true → VRs ρ l us → VRs (ρ.cut n) l us
  | [], _, _, h => by cases h; exact .nil
  | v :: l, _, hl, h => by
    cases h with
    | cons _ _ _ _ h1 h2 =>
      rw [lowL2_cons, Bool.and_eq_true] at hl
      exact .cons _ _ _ _ (low2_ok hl.1 h1) (lowL2_ok hl.2 h2)

theorem lowA_ok {ρ : Ren} {n : Nat} {v : AV} {u : Value} (h : lowA n v = true) (hv : VR ρ v u) : VR (ρ.cut n) v u := by
  unfold lowA at h
  split at h
  · cases hv with
    | tup _ _ hu => exact .tup _ _ (lowL2_ok h hu)
  · exact low2_ok h hv

/-! ### equal for sure -/
theorem eqK_true {a b : IntKind} (h : eqK a b = true) : a = b := by rw [eqK_eq] at h; exact of_decide_eq_true h
theorem eqI_true {a b : Int} (h : eqI a b = true) : a = b := by rw [eqI_eq] at h; exact eq_of_beq h
theorem beqN_true {a b : Nat} (h : Nat.beq a b = true) : a = b := Nat.eq_of_beq_eq_true h

theorem eqA1_ok {x y : AV} (h : eqA1 x y = true) : x = y := by
  unfold eqA1 at h
  split at h <;> (try simp only [Bool.and_eq_true] at h) <;> first
    | rfl
    | (cases h; done)
    | (rw [eqB_eq] at h; rw [eq_of_beq h])
    | (rw [eqK_true h.1, eqI_true h.2])
    | (rw [eqN_iff] at h; rw [of_decide_eq_true h])
    | (rw [beqN_true h.1, beqN_true h.2])
    | (rw [beqN_true h.1.1.1.1, beqN_true h.1.1.1.2, beqN_true h.1.1.2, beqN_true h.1.2, beqN_true h.2])
    | (rw [beqN_true h])
    | (rw [beqN_true h.1.1, beqN_true h.1.2, beqN_true h.2])

theorem eqAs_ok : ∀ {a b : List AV}, eqAs a b = true → a = b
  | [], [], _ => rfl
  | [], _ :: _, h => by cases h
  | _ :: _, [], h => by cases h
  | x :: a, y :: b, h => by
    have h : (eqA1 x y && eqAs a b) = true := h
    rw [Bool.and_eq_true] at h
    rw [eqA1_ok h.1, eqAs_ok h.2]
theorem eqA2_ok {x y : AV} (h : eqA2 x y = true) : x = y := by
  unfold eqA2 at h
  split at h
  · rw [eqAs_ok h]
  · exact eqA1_ok h
theorem eqAs2_ok : ∀ {a b : List AV}, eqAs2 a b = true → a = b
  | [], [], _ => rfl
  | [], _ :: _, h => by cases h
  | _ :: _, [], h => by cases h
  | x :: a, y :: b, h => by
    have h : (eqA2 x y && eqAs2 a b) = true := h
    rw [Bool.and_eq_true] at h
    rw [eqA2_ok h.1, eqAs2_ok h.2]
theorem eqA_ok {x y : AV} (h : eqA x y = true) : x = y := by
  unfold eqA at h
  split at h
  · rw [eqAs2_ok h]
  · exact eqA2_ok h

/-! ### the reference run -/
def Lv {α : Type} (v : Nat → α) : Nat → List α
  | 0 => []
  | i + 1 => v i :: Lv v i

theorem Lv_congr {α : Type} {v v' : Nat → α} : ∀ {i : Nat}, (∀ j, j < i → v' j = v j) → Lv v' i = Lv v i
  | 0, _ => rfl
  | i + 1, h => by simp only [Lv]; rw [h i (by omega), Lv_congr fun j hj => h j (by omega)]

theorem Lv_nth (v : Nat → AV) : ∀ (i k : Nat), k < i → nth (Lv v i) k = v (i - 1 - k)
  | i + 1, 0, _ => by simp only [Lv]; rfl
  | i + 1, k + 1, h => by
    simp only [Lv]
    rw [nth_succ, Lv_nth v i k (by omega)]
    congr 1; omega

/-- what operation number i does in the text's order -/
def Step (P : Program) (call : CallT) (F : Fr) (x : XOper) (v : Nat → AV) (H : Nat → Hp) (i : Nat) : Prop :=
  (wantedX x.guard F (Lv v i) = some false ∧ v i = .tup [] ∧ H (i + 1) = H i) ∨
    (wantedX x.guard F (Lv v i) = some true ∧ opX P call x.op F (Lv v i) (H i) (fun v h => .ok [v] h) = .ok [v i] (H (i + 1)) ∧ (H i).next ≤ (H (i + 1)).next ∧ lowA (H (i + 1)).next (v i) = true)

def isE (x : XOper) : Bool := Nat.beq (cls x.op) 3

/-- the heaps behind the acts, the newest first -/
def Gv (xs : Nat → Bool) (H : Nat → Hp) (G0 : List Hp) (i0 : Nat) : Nat → List Hp
  | 0 => G0
  | n + 1 => if xs (i0 + n) then H (i0 + n + 1) :: Gv xs H G0 i0 n else Gv xs H G0 i0 n

theorem Gv_congr {xs : Nat → Bool} {H H' : Nat → Hp} {G0 : List Hp} {i0 : Nat} : ∀ {n : Nat}, (∀ j, j < n → H' (i0 + j + 1) = H (i0 + j + 1)) → Gv xs H' G0 i0 n = Gv xs H G0 i0 n
  | 0, _ => rfl
  | n + 1, h => by simp only [Gv]; rw [h n (by omega), Gv_congr fun j hj => h j (by omega)]

theorem opsG_cons (call : CallT) (x : XOper) (l : List XOper) (F : Fr) (L : List AV) (h : Hp) (G : List Hp) :
    opsG P call (x :: l) F L h G = (match wantedX x.guard F L with
      | none => .bad []
      | some true => match opX P call x.op F L h (fun v h => .ok [v] h) with
        | .ok [v] h' => bif Nat.ble h.next h'.next && lowA h'.next v then opsG P call l F (v :: L) h' (bif Nat.beq (cls x.op) 3 then h' :: G else G) else .bad [4444444]
        | .ok _ _ => .bad []
        | .bad w => .bad w
      | some false => opsG P call l F (.tup [] :: L) h (bif Nat.beq (cls x.op) 3 then h :: G else G)) := rfl

theorem ref_run {call : CallT} {F : Fr} {xs : Nat → XOper} : ∀ (n i0 : Nat) (v : Nat → AV) (h : Hp) (G : List Hp) (L' : List AV) (h' : Hp) (G' : List Hp),
    opsG P call ((List.range' i0 n).map xs) F (Lv v i0) h G = .ok L' h' G' →
    ∃ (v' : Nat → AV) (H : Nat → Hp), (∀ j, j < i0 → v' j = v j) ∧ H i0 = h ∧ (∀ i, i0 ≤ i → i < i0 + n → Step P call F (xs i) v' H i) ∧ L' = Lv v' (i0 + n) ∧ h' = H (i0 + n) ∧ G' = Gv (fun i => isE (xs i)) H G i0 n
  | 0, i0, v, h, G, L', h', G', hr => by
    have hr : OG.ok (Lv v i0) h G = .ok L' h' G' := hr
    simp only [OG.ok.injEq] at hr
    obtain ⟨rfl, rfl, rfl⟩ := hr
    exact ⟨v, fun _ => h, fun _ _ => rfl, rfl, fun i h1 h2 => by omega, rfl, rfl, rfl⟩
  | n + 1, i0, v, h, G, L', h', G', hr => by
    rw [List.range'_succ, List.map_cons, opsG_cons] at hr
    have go : ∀ (u : AV) (h1 : Hp), opsG P call ((List.range' (i0 + 1) n).map xs) F (u :: Lv v i0) h1 (bif Nat.beq (cls (xs i0).op) 3 then h1 :: G else G) = .ok L' h' G' →
        (∀ H : Nat → Hp, H i0 = h → H (i0 + 1) = h1 → ∀ v' : Nat → AV, v' i0 = u → Lv v' i0 = Lv v i0 → Step P call F (xs i0) v' H i0) →
        ∃ (v' : Nat → AV) (H : Nat → Hp), (∀ j, j < i0 → v' j = v j) ∧ H i0 = h ∧ (∀ i, i0 ≤ i → i < i0 + (n + 1) → Step P call F (xs i) v' H i) ∧ L' = Lv v' (i0 + (n + 1)) ∧ h' = H (i0 + (n + 1)) ∧ G' = Gv (fun i => isE (xs i)) H G i0 (n + 1) := by
      intro u h1 hr1 hst
      let v1 : Nat → AV := fun j => if j = i0 then u else v j
      have e1 : u :: Lv v i0 = Lv v1 (i0 + 1) := by
        simp only [Lv]
        rw [Lv_congr (v := v) (v' := v1) fun j hj => by simp only [v1]; rw [if_neg (by omega)]]
        simp [v1]
      rw [e1] at hr1
      obtain ⟨v', H, g1, g2, g3, g4, g5, g6⟩ := ref_run n (i0 + 1) v1 h1 _ L' h' G' hr1
      let H' : Nat → Hp := fun j => if j = i0 then h else H j
      have hH : ∀ j, i0 < j → H' j = H j := fun j hj => by simp only [H']; rw [if_neg (by omega)]
      have hv0 : v' i0 = u := by rw [g1 i0 (by omega)]; simp [v1]
      have hvl : ∀ j, j < i0 → v' j = v j := fun j hj => by rw [g1 j (by omega)]; simp only [v1]; rw [if_neg (by omega)]
      refine ⟨v', H', hvl, by simp [H'], fun i h2 h3 => ?_, by rw [g4]; congr 1; omega, by rw [hH _ (by omega), g5]; congr 1; omega, ?_⟩
      · by_cases hi : i = i0
        · subst hi
          exact hst H' (by simp [H']) (by rw [hH _ (by omega)]; exact g2) v' hv0 (Lv_congr hvl)
        · have := g3 i (by omega) (by omega)
          unfold Step at this ⊢
          rw [hH i (by omega), hH (i + 1) (by omega)]
          exact this
      · rw [g6]
        have key : ∀ m, Gv (fun i => isE (xs i)) H (bif Nat.beq (cls (xs i0).op) 3 then h1 :: G else G) (i0 + 1) m = Gv (fun i => isE (xs i)) H' G i0 (m + 1) := by
          intro m
          induction m with
          | zero =>
            simp only [Gv, Nat.add_zero]
            rw [hH (i0 + 1) (by omega), g2]
            unfold isE
            rcases Bool.eq_false_or_eq_true (Nat.beq (cls (xs i0).op) 3) with e | e <;> simp [e]
          | succ m ih =>
            have e0 : ∀ k, Gv (fun i => isE (xs i)) H' G i0 (k + 1) = if isE (xs (i0 + k)) then H' (i0 + k + 1) :: Gv (fun i => isE (xs i)) H' G i0 k else Gv (fun i => isE (xs i)) H' G i0 k := fun k => rfl
            rw [e0 (m + 1), ← ih, hH _ (by omega)]
            simp only [Gv]
            rw [show i0 + 1 + m = i0 + (m + 1) by omega]
        exact key n
    cases hq : wantedX (xs i0).guard F (Lv v i0) with
    | none => rw [hq] at hr; cases hr
    | some b =>
      rw [hq] at hr
      cases b with
      | false =>
        simp only at hr
        exact go (.tup []) h hr fun H e1 e2 v' e3 e4 => .inl ⟨by rw [e4]; exact hq, e3, by rw [e2, e1]⟩
      | true =>
        simp only at hr
        split at hr
        · rename_i u h1 hop
          cases hb : (Nat.ble h.next h1.next && lowA h1.next u) with
          | false => rw [hb] at hr; cases hr
          | true =>
            rw [hb] at hr
            rw [ble_nat] at hb
            simp only [Bool.and_eq_true, decide_eq_true_eq] at hb
            exact go u h1 hr fun H e1 e2 v' e3 e4 => .inr ⟨by rw [e4]; exact hq, by rw [e4, e1, e2, e3]; exact hop, by rw [e1, e2]; exact hb.1, by rw [e2, e3]; exact hb.2⟩
        · cases hr
        · cases hr
end
end Hx
