/- The evaluator: every worldless operation gives what the model's gives. -/
import Derived.Test.YtopkkjgjohgogaaGreatDoorHxC
import Derived.Laws.Tables
namespace Hx
open Go

section
variable {P : Program}

theorem fold_set : ∀ (l : List Value) (k off : Nat) (cells : Array Value), off + k + l.length ≤ cells.size →
    ((l.zipIdx k).foldl (fun cs (x : Value × Nat) => cs.setIfInBounds (off + x.2) x.1) cells).toList = cells.toList.take (off + k) ++ (l ++ cells.toList.drop (off + k + l.length))
  | [], k, off, cells, _ => by simp
  | v :: l, k, off, cells, h => by
    simp only [List.length_cons] at h
    rw [List.zipIdx_cons, List.foldl_cons, fold_set l (k + 1) off _ (by simp; omega)]
    simp only [Array.toList_setIfInBounds]
    have e1 : off + (k + 1) = off + k + 1 := by omega
    rw [e1, List.take_succ_eq_append_getElem (by simp; omega)]
    simp only [List.getElem_set_self, List.append_assoc, List.length_cons]
    rw [List.take_set_of_le (by omega), List.drop_set_of_lt (by omega)]
    simp only [List.cons_append, List.nil_append]
    congr 3
    congr 1; omega

theorem fill_ok {place f : Nat → Option (Nat × Nat)} (hf : ∀ i q, f i = some q → place i = some q) {F : Fr} {L : List AV} {ds : List (Option Nat)} {g : Operand → Value} {ρ : Ren} :
    ∀ (ps : List (Nat × Operand)) (l : List (Nat × Nat × XO)) (zs cs : List AV) (cells : Array Value), parts f ds ps = some l → fillL F L l zs = some cs → VRs ρ zs cells.toList →
      (∀ p ∈ ps, VR ρ (ev F L (co ds p.2)) (g p.2)) → ∃ cells', Instr.fill place cells (ps.map fun p => (p.1, g p.2)) = some cells' ∧ VRs ρ cs cells'.toList
  | [], l, zs, cs, cells, hp, hl, hz, _ => by
    simp only [parts, Option.some.injEq] at hp; subst hp
    simp only [fillL, Option.some.injEq] at hl; subst hl
    exact ⟨cells, rfl, hz⟩
  | p :: ps, l, zs, cs, cells, hp, hl, hz, hr => by
    have hp' : (match f p.1 with | some q => (match parts f ds ps with | some l => some ((q.1, q.2, co ds p.2) :: l) | none => none) | none => none) = some l := hp
    cases hq : f p.1 with
    | none => rw [hq] at hp'; cases hp'
    | some q =>
      cases hl' : parts f ds ps with
      | none => rw [hq, hl'] at hp'; cases hp'
      | some l' =>
        rw [hq, hl'] at hp'
        simp only [Option.some.injEq] at hp'
        subst hp'
        have h2 : Option.rec (motive := fun _ => Option (List AV)) none (fun vs => Bool.rec (motive := fun _ => Option (List AV)) none (fillL F L l' (zs.take q.1 ++ (vs ++ zs.drop (q.1 + q.2)))) (Nat.beq (lenN vs) q.2 && Nat.ble (q.1 + q.2) (lenN zs))) (cells? (ev F L (co ds p.2))) = some cs := hl
        cases hc : cells? (ev F L (co ds p.2)) with
        | none => rw [hc] at h2; cases h2
        | some vs =>
          rw [hc] at h2
          have h3 : Bool.rec (motive := fun _ => Option (List AV)) none (fillL F L l' (zs.take q.1 ++ (vs ++ zs.drop (q.1 + q.2)))) (Nat.beq (lenN vs) q.2 && Nat.ble (q.1 + q.2) (lenN zs)) = some cs := h2
          cases hb : (Nat.beq (lenN vs) q.2 && Nat.ble (q.1 + q.2) (lenN zs)) with
          | false => rw [hb] at h3; cases h3
          | true =>
            rw [hb] at h3
            rw [beq_nat, ble_nat, lenN_eq, lenN_eq] at hb
            simp only [Bool.and_eq_true, decide_eq_true_eq] at hb
            have hv := cells?_ok (hr p (by simp)) hc
            have hvl := hv.length
            have hzl := hz.length
            have hvs : (g p.2).cells.toList.length = q.2 := by rw [← hvl]; exact hb.1
            have hsz : (g p.2).cells.size = q.2 := by simpa using hvs
            have hle : q.1 + (g p.2).cells.size ≤ cells.size := by rw [hsz]; simp at hzl; omega
            obtain ⟨cells', hfill, hres⟩ := fill_ok hf (g := g) (ρ := ρ) ps l' _ cs ((g p.2).cells.zipIdx.foldl (fun cs (x : Value × Nat) => cs.setIfInBounds (q.1 + x.2) x.1) cells) hl' h3 (by
              rw [← Array.foldl_toList, Array.toList_zipIdx, fold_set _ 0 q.1 cells (by simpa using hle)]
              simp only [Nat.add_zero]
              rw [show (g p.2).cells.toList.length = q.2 from hvs]
              exact (hz.take _).append (hv.append (hz.drop _))) (fun p' hp' => hr p' (by simp [hp']))
            refine ⟨cells', ?_, hres⟩
            simp only [List.map_cons, Instr.fill, hf _ _ hq]
            rw [if_neg (by simp [hsz]; omega)]
            exact hfill

/-! ### the parts that a struct, an array has -/
theorem szT_info {t n : Nat} (h : szT P t = some n) : ∃ i, P.info? t = some i ∧ i.size = n := by
  unfold szT at h
  cases hi : P.info? t with
  | none => rw [hi] at h; cases h
  | some i => rw [hi] at h; exact ⟨i, rfl, by simpa using h⟩
theorem zeroC_info {t : Nat} {zs : List AV} (h : zeroC P t = some zs) : ∃ i z, P.info? t = some i ∧ i.zero = some z ∧ zs = z.cells.toList.map c1 := by
  unfold zeroC at h
  cases hi : P.info? t with
  | none => rw [hi] at h; cases h
  | some i =>
    cases hz : i.zero with
    | none => rw [hi] at h; simp [hz] at h
    | some z => rw [hi] at h; simp [hz] at h; exact ⟨i, z, rfl, hz, h.symm⟩

theorem build_ok {t : Nat} {ps : List (Nat × Operand)} {ds : List (Option Nat)} {pop : POp} {F : Fr} {L : List AV} {g : Operand → Value} {ρ : Ren} {v : AV} {w : World}
    (hc : compBuild P t ps ds = .p pop) (hv : popX pop F L = some v) (hx : ∀ p ∈ ps, VR ρ (ev F L (co ds p.2)) (g p.2)) :
    ∃ vc, (Instr.build t (ps.map fun p => (p.1, g p.2)).toArray).run P w = .ok vc w ∧ VR ρ v vc := by
  unfold compBuild at hc
  cases hz : zeroC P t with
  | none => rw [hz] at hc; cases hc
  | some zs =>
    rw [hz] at hc
    obtain ⟨i, z, hi, hiz, rfl⟩ := zeroC_info hz
    cases hu : P.underlying t with
    | none => rw [hu] at hc; cases hc
    | some d =>
      rw [hu] at hc
      cases d <;> simp only [reduceCtorEq] at hc
      case array n e =>
        cases hs : szT P e with
        | none => rw [hs] at hc; cases hc
        | some sz =>
          rw [hs] at hc
          obtain ⟨ie, hie, rfl⟩ := szT_info hs
          simp only at hc
          cases hp : parts (placeA ie.size) ds ps with
          | none => rw [hp] at hc; cases hc
          | some l =>
            rw [hp] at hc
            simp only [XOp.p.injEq] at hc
            subst hc
            have hv' : (match fillL F L l (z.cells.toList.map c1) with | some cs => some (AV.agg cs) | none => none) = some v := hv
            cases hfl : fillL F L l (z.cells.toList.map c1) with
            | none => rw [hfl] at hv'; cases hv'
            | some cs =>
              rw [hfl] at hv'
              simp only [Option.some.injEq] at hv'
              subst hv'
              obtain ⟨cells', h1, h2⟩ := fill_ok (place := fun i => some (i * ie.size, ie.size)) (f := placeA ie.size) (fun _ _ h => h) (g := g) ps l _ cs z.cells hp hfl (c1s_ok ρ _) hx
              exact ⟨_, run_build w t _ cells' (by simp [Program.built, hi, hu, hiz, hie, h1]), .agg _ _ h2⟩
      case struct fs =>
        cases hall : fs.toList.all (fun f => (P.info? f.type).isSome) with
        | false => rw [hall] at hc; cases hc
        | true =>
          rw [hall] at hc
          simp only [cond_true] at hc
          cases hp : parts (placeS P fs) ds ps with
          | none => rw [hp] at hc; cases hc
          | some l =>
            rw [hp] at hc
            simp only [XOp.p.injEq] at hc
            subst hc
            have hv' : (match fillL F L l (z.cells.toList.map c1) with | some cs => some (AV.agg cs) | none => none) = some v := hv
            cases hfl : fillL F L l (z.cells.toList.map c1) with
            | none => rw [hfl] at hv'; cases hv'
            | some cs =>
              rw [hfl] at hv'
              simp only [Option.some.injEq] at hv'
              subst hv'
              have hpl : ∀ (l : List Field), (∀ f ∈ l, (P.info? f.type).isSome) → ∃ places, l.mapM (fun (f : Field) => (P.info? f.type).map fun i => (f.offset, i.size)) = some places ∧
                  ∀ i : Nat, places[i]? = (match l[i]? with | some (f : Field) => (match szT P f.type with | some n => some (f.offset, n) | none => none) | none => none) := by
                intro l
                induction l with
                | nil => intro _; exact ⟨[], rfl, fun i => by simp⟩
                | cons x l ih =>
                  intro hh
                  obtain ⟨pl, h1, h2⟩ := ih fun f hf => hh f (by simp [hf])
                  obtain ⟨ix, hix⟩ := Option.isSome_iff_exists.1 (hh x (by simp))
                  refine ⟨(x.offset, ix.size) :: pl, by simp [List.mapM_cons, hix, h1], fun i => ?_⟩
                  cases i with
                  | zero => simp [szT, hix]
                  | succ i => simpa using h2 i
              obtain ⟨places, hm, hpi⟩ := hpl fs.toList (fun f hf => List.all_eq_true.1 hall f hf)
              obtain ⟨cells', h1, h2⟩ := fill_ok (place := (places.toArray[·]?)) (f := placeS P fs) (fun i q h => by
                unfold placeS at h
                show places.toArray[i]? = some q
                rw [List.getElem?_toArray, hpi, Array.getElem?_toList]
                exact h) (g := g) ps l _ cs z.cells hp hfl (c1s_ok ρ _) hx
              exact ⟨_, run_build w t _ cells' (by simpa [Program.built, hi, hu, hiz, hm] using h1), .agg _ _ h2⟩
end
end Hx
