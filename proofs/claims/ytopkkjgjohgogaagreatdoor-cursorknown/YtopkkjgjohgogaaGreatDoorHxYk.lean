/- The evaluator: what stands in the place of Unify, copied, strings.Join is right. -/
import Derived.Test.YtopkkjgjohgogaaGreatDoorHxYj
import Derived.Below
import Derived.Lib.Join
namespace Hx
open Go

section
variable {P : Program}

theorem xUnify_ok {nt outs fuel id id1 : Nat} {c0 c1 c2 c3 c4 z L R Rest : Code} {call : CallT} (hmx : P.follows .mixedOrders = true) (hng : NoNG P) (hcall : CallOk P call)
    (hL : RangeShape L 31 32 33 id (.block id1 (.seq R Rest))) (hR : EntryShape R 31 34 35 9) (hnt : 36 ≤ nt) :
    CodeOk P nt outs (.seq c0 (.seq c1 (.seq c2 (.seq c3 (.seq (.seq c4 (.block id (.loop L))) z))))) (xUnify P nt outs fuel (.seq c0 (.seq c1 (.seq c2 (.seq c3 (.seq (.seq c4 (.block id (.loop L))) z))))) call) := by
  have hL0 := hL
  obtain ⟨rid, ops, o1, o2, rfl, rest⟩ := hL
  exact seqX_ok (code_ok hmx hcall hng _) (seqX_ok (code_ok hmx hcall hng _) (seqX_ok (code_ok hmx hcall hng _) (seqX_ok (code_ok hmx hcall hng _)
    (seqX_ok (seqX_ok (code_ok hmx hcall hng _) (anyU_ok (fuel := fuel) hmx hng hcall hL0 hR (by omega) (by omega) (by omega) (by omega) (by omega) (by omega) (by decide) (code_ok hmx hcall hng _) (code_ok hmx hcall hng _)))
      (code_ok hmx hcall hng _)))))

theorem xCopied_ok {nt outs fuel id id1 : Nat} {c0 c1 c2 z L B : Code} {zs : List AV} {call : CallT} (hmx : P.follows .mixedOrders = true) (hng : NoNG P) (hcall : CallOk P call)
    (hL : RangeShape L 16 17 18 id (.block id1 B)) (hB : CopyShape P nt outs B 16 3 19 20 21 5 4 22 23 24 4 zs) (hnt : 25 ≤ nt) :
    CodeOk P nt outs (.seq c0 (.seq c1 (.seq (.seq c2 (.block id (.loop L))) z))) (xCopied P nt outs fuel (.seq c0 (.seq c1 (.seq (.seq c2 (.block id (.loop L))) z))) call) :=
  seqX_ok (code_ok hmx hcall hng _) (seqX_ok (code_ok hmx hcall hng _)
    (seqX_ok (seqX_ok (code_ok hmx hcall hng _) (anyC_ok (fuel := fuel) hmx hng hcall hL hB (by omega) (by omega) (by omega) (by decide) (code_ok hmx hcall hng _)))
      (code_ok hmx hcall hng _)))

theorem body_ov {f : Nat} {fn : Func} {c : Code} {x : Code → Fr → Hp → XR} (hfn : P.funcs[f]? = some fn) (hb : fn.body = some c) (hx : CodeOk P fn.ntmps (outsF fn) c (x c)) : OvOk P f (resZ P fn (x (fnBody fn))) := by
  have e : fnBody fn = c := by unfold fnBody; rw [hb]
  rw [e]
  exact fun_ok hfn hb hx

/-- strings that are read -/
theorem strs_ok {ρ : Ren} : ∀ {l : List AV} {vs : List Value} {xs : List (List Nat)}, VRs ρ l vs → strs? l = some xs → ∃ ys : List ByteArray, vs = ys.map Value.string ∧ ys.map (fun y => y.data.toList.map UInt8.toNat) = xs
  | [], _, xs, h, hs => by
    cases h
    have : xs = [] := by simpa [strs?] using hs.symm
    subst this
    exact ⟨[], rfl, rfl⟩
  | v :: l, _, xs, h, hs => by
    cases h with
    | cons _ u _ us hv t =>
      cases v with
      | str s =>
        have hs : (match strs? l with | some l => some (s :: l) | none => none) = some xs := hs
        cases hq : strs? l with
        | none => rw [hq] at hs; cases hs
        | some zs =>
          rw [hq] at hs
          simp only [Option.some.injEq] at hs
          subst hs
          obtain ⟨ys, h1, h2⟩ := strs_ok t hq
          cases hv with
          | str _ b hb => exact ⟨b :: ys, by rw [h1]; rfl, by simp [hb, h2]⟩
      | _ =>
        have hs : (none : Option (List (List Nat))) = some xs := hs
        cases hs

theorem joinN_ok (sep : List UInt8) : ∀ (ys : List (List UInt8)), joinN (sep.map UInt8.toNat) (ys.map fun y => y.map UInt8.toNat) = (Lib.join ys sep).map UInt8.toNat
  | [] => rfl
  | [y] => by
    show y.map UInt8.toNat = _
    rw [Lib.join_one]
  | y :: z :: ys => by
    have ih := joinN_ok sep (z :: ys)
    have e : joinN (sep.map UInt8.toNat) ((y :: z :: ys).map fun y => y.map UInt8.toNat) = y.map UInt8.toNat ++ (sep.map UInt8.toNat ++ joinN (sep.map UInt8.toNat) ((z :: ys).map fun y => y.map UInt8.toNat)) := rfl
    rw [e, ih]
    have e2 : Lib.join (y :: z :: ys) sep = y ++ (sep ++ Lib.join (z :: ys) sep) := by
      simp [Lib.join, List.intercalate, List.intersperse]
    rw [e2, List.map_append, List.map_append]

theorem join_ok {fJ : Nat} (hfn : ∃ fn c, P.funcs[fJ]? = some fn ∧ fn.body = some c)
    (h0 : ∀ (a : Option Addr) (c : Nat) (sep : ByteArray) (w : World), Calls P fJ #[.slice a 0 c, .string sep] w fun e w' => e = .returned (.string ⟨#[]⟩) ∧ w' = w)
    (h1 : ∀ (bk o c : Nat) (xs : List ByteArray) (sep : ByteArray) (w : World), (∀ (j : Nat) x, xs[j]? = some x → w.cell? ⟨bk, o + j, none⟩ = some (.string x)) → bk < w.heap.size → xs.length ≤ 140737488355328 → xs.length ≤ c → (Lib.join (xs.map (·.data.toList)) sep.data.toList).length ≤ 140737488355328 →
      Calls P fJ #[.slice (some ⟨bk, o, none⟩) xs.length c, .string sep] w fun e w' => e = .returned (.string ⟨(Lib.join (xs.map (·.data.toList)) sep.data.toList).toArray⟩) ∧ Go.RowKit.Below w.heap.size w w') : OvOk P fJ joinX :=
  ov_of_contract hfn fun l hp v h' hv => by
    have empty : VR (fun _ => .no) (.str []) (.string ⟨#[]⟩) := .str _ _ rfl
    unfold joinX at hv
    split at hv
    · simp only [Res.ok.injEq] at hv
      obtain ⟨rfl, rfl⟩ := hv
      refine ⟨rfl, fun ρ w args ha hw => ⟨.string ⟨#[]⟩, .str _ _ rfl, ?_⟩⟩
      obtain ⟨al⟩ := args
      cases ha with
      | cons _ _ _ _ a1 ha =>
        cases ha with
        | cons _ _ _ _ a2 ha =>
          cases ha
          cases a1
          cases a2
          exact (h0 _ _ _ w).mono fun e w' ⟨q1, q2⟩ => by subst q2; exact ⟨q1, Nat.le_refl _, fun _ _ => rfl, rfl, rfl, rfl⟩
    · simp only [Res.ok.injEq] at hv
      obtain ⟨rfl, rfl⟩ := hv
      refine ⟨rfl, fun ρ w args ha hw => ⟨.string ⟨#[]⟩, .str _ _ rfl, ?_⟩⟩
      obtain ⟨al⟩ := args
      cases ha with
      | cons _ _ _ _ a1 ha =>
        cases ha with
        | cons _ _ _ _ a2 ha =>
          cases ha
          cases a2
          cases a1 <;> exact (h0 _ _ _ w).mono fun e w' ⟨q1, q2⟩ => by subst q2; exact ⟨q1, Nat.le_refl _, fun _ _ => rfl, rfl, rfl, rfl⟩
    · rename_i i off n cap z sep
      split at hv
      · rename_i cs hcs
        split at hv
        · rename_i xs hxs
          cases hb : (Nat.beq z 1 && Nat.ble n 1000000 && Nat.ble (lenN (joinN sep xs)) 1000000) with
          | false => rw [hb] at hv; cases hv
          | true =>
            rw [hb] at hv
            simp only [cond_true, Res.ok.injEq] at hv
            obtain ⟨rfl, rfl⟩ := hv
            rw [Bool.and_eq_true, Bool.and_eq_true, ble_nat, ble_nat, lenN_eq] at hb
            obtain ⟨⟨hz, hn1⟩, hlen⟩ := hb
            have hn1 : n ≤ 1000000 := by simpa using hn1
            have hz := beqN_true hz
            subst hz
            refine ⟨rfl, fun ρ w args ha hw => ?_⟩
            obtain ⟨al⟩ := args
            cases ha with
            | cons _ u1 _ _ a1 ha =>
              cases ha with
              | cons _ u2 _ _ a2 ha =>
                cases ha
                cases a2 with
                | str _ sb hsb =>
                  unfold cellsAt at hcs
                  split at hcs
                  · rename_i c top wr hblk
                    cases hle : Nat.ble (Nat.add off (Nat.succ n)) top with
                    | false => rw [hle] at hcs; cases hcs
                    | true =>
                      rw [hle] at hcs
                      simp only [cond_true] at hcs
                      rw [ble_nat] at hle
                      have hle : off + (n + 1) ≤ top := by simpa using hle
                      cases a1 with
                      | sld _ _ _ _ _ _ _ hd => exact absurd (hw.dead i _ hd hblk) (by simp)
                      | sl _ _ _ _ _ b N c' hl q1 q2 q3 =>
                        obtain ⟨cc, ee, fr, hcc, hsz, htop, hval, _⟩ := hw.cells hl hblk
                        obtain ⟨g1, g2⟩ := getCells_ok _ _ _ hcs
                        have hvs : ∃ vs : List Value, VRs ρ cs vs ∧ ∀ j u, vs[j]? = some u → cc[off + j]? = some u := by
                          have : ∀ (cs : List AV) (o : Nat), (∀ j v, cs[j]? = some v → c.get (o + j) = some v) → o + cs.length ≤ top → ∃ vs : List Value, VRs ρ cs vs ∧ ∀ j u, vs[j]? = some u → cc[o + j]? = some u := by
                            intro cs
                            induction cs with
                            | nil => intro o _ _; exact ⟨[], .nil, by simp⟩
                            | cons x cs ih =>
                              intro o hx ho
                              have ho' : o + (cs.length + 1) ≤ top := by simpa using ho
                              obtain ⟨u, e1, e2⟩ := hval o x (by omega) (by have := hx 0 x rfl; rwa [Nat.add_zero] at this)
                              obtain ⟨vs, e3, e4⟩ := ih (o + 1) (fun j v hj => by have := hx (j + 1) v (by simpa using hj); rwa [show o + (j + 1) = o + 1 + j by omega] at this) (by omega)
                              refine ⟨u :: vs, .cons _ _ _ _ e2 e3, fun j y hj => ?_⟩
                              cases j with
                              | zero => have : u = y := by simpa using hj
                                        subst this; rw [Nat.add_zero]; exact e1
                              | succ j => have := e4 j y (by simpa using hj); rwa [show o + 1 + j = o + (j + 1) by omega] at this
                          exact this cs off g2 (by rw [g1]; exact hle)
                        obtain ⟨vs, v1, v2⟩ := hvs
                        obtain ⟨ys, y1, y2⟩ := strs_ok v1 hxs
                        have hyl : ys.length = n + 1 := by
                          have := v1.length
                          rw [g1, y1] at this
                          simpa using this.symm
                        have hjoin : joinN sep xs = (Lib.join (ys.map (·.data.toList)) sb.data.toList).map UInt8.toNat := by
                          rw [← hsb, ← y2, ← joinN_ok, List.map_map]; rfl
                        refine ⟨.string ⟨(Lib.join (ys.map (·.data.toList)) sb.data.toList).toArray⟩, .str _ _ (by rw [hjoin]), ?_⟩
                        have hk := h1 b off c' ys sb w (fun j x hx => ?_) (hw.bd i b N hl) (by rw [hyl]; omega) (by rw [hyl]; omega) ?_
                        · rw [hyl] at hk
                          exact hk.mono fun e w' ⟨p1, p2⟩ => ⟨p1, p2.size, p2.block, p2.tape, p2.os, p2.output⟩
                        · have := v2 j (.string x) (by rw [y1, List.getElem?_map, hx]; rfl)
                          unfold World.cell?
                          simp only [hcc]
                          simpa using this
                        · have hl1 : (joinN sep xs).length ≤ 1000000 := by simpa using hlen
                          rw [hjoin, List.length_map] at hl1
                          omega
                  · cases hcs
        · cases hv
      · cases hv
    · cases hv
end
end Hx
