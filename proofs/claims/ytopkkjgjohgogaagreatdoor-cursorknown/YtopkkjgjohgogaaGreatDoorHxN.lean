/- The evaluator: acts: the theorem. -/
import Derived.Test.YtopkkjgjohgogaaGreatDoorHxM
namespace Hx
open Go

section
variable {P : Program}

/-- what is put where an operation's value goes -/
def Puts (nx : Next) (u : Value) : Prop := nx = .value u ∨ (nx = .skip ∧ u = .tuple #[])

/-- what an act does -/
def Acted (P : Program) (ρ : Ren) (a : Act) (h h' : Hp) (w : World) (o : Oper) (v : AV) : Prop :=
  ∃ nx vc w' ρ', (execOp a.eval o).run P w = .ok nx w' ∧ Puts nx vc ∧ VR ρ' v vc ∧ Ext ρ ρ' h h' w w'

theorem tup0 {ρ : Ren} : VR ρ (.tup []) (.tuple #[]) := .tup _ _ .nil

theorem st_ok {ρ : Ren} {h : Hp} {w : World} (hw : WR ρ h w) (hlm : Lim ρ h) {t n : Nat} (hs : szT P t = some n) {x y v : AV} {ux uy : Value} {h' : Hp} (hx : VR ρ x ux) (hy : VR ρ y uy) (hv : stV n x y h = .ok v h') :
    ∃ w', (Instr.storeAt t ux uy).run P w = .ok () w' ∧ v = .tup [] ∧ Ext ρ ρ h h' w w' := by
  unfold stV at hv
  split at hv
  · rename_i i off
    split at hv
    · rename_i c top hb
      split at hv
      · rename_i l hcl
        cases hq : (Nat.beq (lenN l) n && Nat.ble (Nat.add off n) top && scals l) with
        | false => rw [hq] at hv; cases hv
        | true =>
          rw [hq] at hv
          rw [beq_nat, ble_nat, lenN_eq, show Nat.add off n = off + n from rfl] at hq
          simp only [Bool.and_eq_true, decide_eq_true_eq] at hq
          obtain ⟨⟨rfl, htop⟩, hsc⟩ := hq
          simp only [cond_true, Res.ok.injEq] at hv
          obtain ⟨rfl, rfl⟩ := hv
          cases hx with
          | ptrd _ _ a hd => exact absurd (hw.dead i _ hd hb) (by simp)
          | ptr _ _ b N hl =>
            have hvs := cells?_ok hy hcl
            obtain ⟨g1, g2⟩ := store_ok (P := P) hw hlm hl hb hvs hsc htop
            refine ⟨_, ?_, rfl, g2⟩
            unfold Instr.storeAt
            simp only [Instr.sureAddr, Sem.run_bind, Sem.run_pure, Result.andThen_ok]
            unfold storeVar
            have hlen : uy.cells.size = l.length := by rw [hvs.length]; simp
            simp only [Sem.run_bind, sizeOf_ok hs w, Result.andThen_ok, hlen, ne_eq, not_true_eq_false, if_false]
            exact g1
      · cases hv
    · cases hv
  · cases hv

/-- append: what the model does, by the three roads -/
def AppRun (P : Program) (w : World) (e esz n : Nat) (vs : List Value) (us : Value) (R : Sem Value) : Prop :=
  (us = .slice none 0 0 → n = 0 → R.run P w = .ok (.slice none 0 0) w) ∧
  (∀ a len c w', us = .slice (some a) len c → len + n ≤ c → (storeCells (a.add (len * esz)) vs).run P w = .ok () w' → R.run P w = .ok (.slice (some a) (len + n) c) w') ∧
  (∀ base len c (olds : Array Value), us = .slice base len c → c < len + n → len + n ≤ 16777216 → (Builtin.firstCells esz len us).run P w.drew = .ok olds w.drew →
      ∃ (m : Nat) (rest : Array Value), len + n ≤ m ∧ rest.size = (m - (len + n)) * esz ∧ R.run P w = .ok (.slice (some ⟨w.heap.size, 0, none⟩) (len + n) m) (w.drew.alloc (.cells (olds ++ vs.toArray ++ rest) e)))

theorem app_run {w : World} {t u ty e esz n : Nat} {i : TypeInfo} {z : Value} {vs : List Value} {us ux : Value} (ht : P.underlying t = some (.slice e)) (hi : P.info? e = some i) (hsz : i.size = esz) (hz : i.zero = some z) (hzs : z.cells.size = esz) (hby : i.bytes ≤ 1048576)
    (hu : (∃ e', P.underlying u = some (.slice e')) ∨ P.underlying u = some .string) (hlen : (Builtin.lenOf ux).run P w = .ok n w) (hfc : ∀ w' : World, w'.heap = w.heap → (Builtin.firstCells esz n ux).run P w' = .ok vs.toArray w') :
    AppRun P w e esz n vs us (Builtin.append_ #[t, u] ty #[us, ux]) := by
  subst hsz
  have f0 := hfc w rfl
  have f1 := hfc w.drew rfl
  refine ⟨?_, ?_, ?_⟩
  · rintro rfl rfl
    rcases hu with ⟨e', hu⟩ | hu <;> simp [Builtin.append_, run_underlying ht, run_underlying hu, Go.sizeOf, typeInfo, hi, hlen, f0]
  · rintro a len c w' rfl hle hst
    rcases hu with ⟨e', hu⟩ | hu <;> simp [Builtin.append_, run_underlying ht, run_underlying hu, Go.sizeOf, typeInfo, hi, hlen, f0, hle, hst]
  · rintro base len c olds rfl hlt hbig hold
    have hn : ¬ (len + n ≤ c) := by omega
    have h63' : ¬ (9223372036854775807 < ((len : Int) + (n : Int))) := by omega
    have h48 : ¬ (281474976710656 < Builtin.nextslicecap (len + n) c * i.bytes) := by
      have := growslice_fits (need := len + n) (old := c) (bytes := i.bytes) hlt (by
        have := Nat.mul_le_mul hbig hby
        omega)
      omega
    refine ⟨grownCap w (len + n) c e, Builtin.zeroCells z.cells (grownCap w (len + n) c e - (len + n)), Nat.le_add_right _ _, by simp [Builtin.zeroCells, hzs], ?_⟩
    rcases hu with ⟨e', hu⟩ | hu <;> simp [Builtin.append_, run_underlying ht, run_underlying hu, Go.sizeOf, typeInfo, zeroValue, hi, hz, hlen, hn, h63', h48, Question.forced, f1, hold, newRow, grownCap]

theorem appz_run {w : World} {t u ty e esz n : Nat} {i : TypeInfo} {z : Value} {us : Value} {k k' : IntKind} (ht : P.underlying t = some (.slice e)) (hi : P.info? e = some i) (hsz : i.size = esz) (hz : i.zero = some z) (hzs : z.cells.size = esz) (hby : i.bytes ≤ 1048576)
    (hu : P.underlying u = some (.int k)) (hn0 : n ≤ 16777216) (h0 : 0 < esz) :
    AppRun P w e esz n (repV z.cells.toList n) us (Builtin.append_ #[t, u] ty #[us, .int k' (n : Int)]) := by
  subst hsz
  have w1 : IntKind.i64.wrap (n : Int) = n := wrap_i64 (by omega)
  have w0 : IntKind.i64.wrap 0 = 0 := by decide
  have hmul : i.bytes * n ≤ 1048576 * 16777216 := Nat.mul_le_mul hby hn0
  have t1 : ¬ ((n : Int) * (i.bytes : Int) > 281474976710656) := by
    have : (n : Int) * (i.bytes : Int) = ((i.bytes * n : Nat) : Int) := by simp [Int.mul_comm]
    rw [this]; omega
  have hzc : Builtin.zeroCells z.cells n = (repV z.cells.toList n).toArray := by
    apply Array.ext'
    rw [← range_rep z.cells n (by omega)]
    simp [Builtin.zeroCells]
  refine ⟨?_, ?_, ?_⟩
  · rintro rfl rfl
    simp [Builtin.append_, run_underlying ht, run_underlying hu, Go.sizeOf, typeInfo, hi, asInt, asIntOf, w0]
  · rintro a len c w' rfl hle hst
    by_cases hn : n = 0
    · subst hn
      have e0 : repV z.cells.toList 0 = [] := rfl
      rw [e0] at hst
      simp [Builtin.append_, run_underlying ht, run_underlying hu, Go.sizeOf, typeInfo, hi, asInt, asIntOf, w0] at hst ⊢
      simp [hst, show len ≤ c from hle]
    · have hne : ¬ (n * i.size = 0) := Nat.mul_ne_zero (by omega) (by omega)
      simp [Builtin.append_, run_underlying ht, run_underlying hu, Go.sizeOf, typeInfo, zeroValue, hi, hz, asInt, asIntOf, w1, hle, hst, hzc, hne, Int.not_lt.2 (Int.natCast_nonneg n), t1]
  · rintro base len c olds rfl hlt hbig hold
    have hn : ¬ (len + n ≤ c) := by omega
    have h63' : ¬ (9223372036854775807 < ((len : Int) + (n : Int))) := by omega
    have h48 : ¬ (281474976710656 < Builtin.nextslicecap (len + n) c * i.bytes) := by
      have := growslice_fits (need := len + n) (old := c) (bytes := i.bytes) hlt (by
        have := Nat.mul_le_mul hbig hby
        omega)
      omega
    refine ⟨grownCap w (len + n) c e, Builtin.zeroCells z.cells (grownCap w (len + n) c e - (len + n)), Nat.le_add_right _ _, by simp [Builtin.zeroCells, hzs], ?_⟩
    by_cases hn1 : n = 0
    · subst hn1
      have e0 : repV z.cells.toList 0 = [] := rfl
      rw [e0]
      simp at hn h48 h63'
      simp [Builtin.append_, run_underlying ht, run_underlying hu, Go.sizeOf, typeInfo, zeroValue, hi, hz, asInt, asIntOf, w0, Nat.not_le.2 hn, Int.not_lt.2 h63', Nat.not_lt.2 h48, Question.forced, hold, newRow, grownCap]
    · have hne : ¬ (n * i.size = 0) := Nat.mul_ne_zero (by omega) (by omega)
      simp [Builtin.append_, run_underlying ht, run_underlying hu, Go.sizeOf, typeInfo, zeroValue, hi, hz, asInt, asIntOf, w1, hn, h63', h48, Question.forced, hold, newRow, grownCap, hzc, hne, Int.not_lt.2 (Int.natCast_nonneg n), t1]

theorem nxt_ok {ρ : Ren} {h h' : Hp} {w : World} (hw : WR ρ h w) (hlm : Lim ρ h) {str : Bool} {x v : AV} {u : Value} {ty : Nat} (hx : VR ρ x u) (hv : nxtV str x h = .ok v h') :
    ∃ vc w', (Instr.next u str ty).run P w = .ok vc w' ∧ VR ρ v vc ∧ Ext ρ ρ h h' w w' := by
  have over : VR ρ (.tup [.bool false]) (.tuple #[.bool false]) := .tup _ _ (.cons _ _ _ _ (.bool _) .nil)
  unfold nxtV at hv
  split at hv
  · rename_i i
    split at hv
    · -- over a string
      rename_i s pos hb
      cases hx with
      | ptrd _ _ a hd => exact absurd (hw.dead i _ hd hb) (by simp)
      | ptr _ _ b N hl =>
        obtain ⟨o, ho, bs, rfl, hbs⟩ := hw.blk i b N _ hl hb
        have hlen : lenN s = bs.size := by rw [lenN_eq, ← hbs, List.length_map, Array.length_toList]; rfl
        rw [blt_nat, hlen] at hv
        by_cases hp : pos < bs.size
        · simp only [hp, decide_true, cond_true] at hv
          split at hv
          · rename_i c wd hu
            simp only [Res.ok.injEq] at hv
            obtain ⟨rfl, rfl⟩ := hv
            have hdec : Utf8.decode bs pos = (c, wd) := by
              unfold utf8 at hu
              split at hu
              · rename_i b0 rest hdrop
                rw [blt_nat] at hu
                by_cases h8 : b0 < 128
                · simp only [h8, decide_true, cond_true, Option.some.injEq, Prod.mk.injEq] at hu
                  obtain ⟨rfl, rfl⟩ := hu
                  have hget : (bs.get! (pos + 0)).toNat = b0 := by
                    have h0 : s[pos]? = some b0 := by
                      have := congrArg (fun l => l[0]?) hdrop
                      simpa using this
                    rw [← hbs] at h0
                    have hp' : pos < bs.data.size := hp
                    simp only [List.getElem?_map, Array.getElem?_toList, Array.getElem?_eq_getElem hp', Option.map_some, Option.some.injEq] at h0
                    rw [← h0]
                    simp [ByteArray.get!, getElem!_pos bs.data pos hp']
                  unfold Utf8.decode
                  simp only [hget]
                  rw [if_pos h8]
                · simp [h8] at hu
              · cases hu
            obtain ⟨w', hs, hat⟩ := setObj_at (P := P) (o' := .stringIter bs (pos + wd)) ho (by simp)
            refine ⟨.tuple #[.bool true, goInt pos, .int .i32 c], w', ?_, .tup _ _ (.cons _ _ _ _ (.bool _) (.cons _ _ _ _ (.int _ _) (.cons _ _ _ _ (.int _ _) .nil))), Ext.put hw hlm hl hb (by simp) hat ⟨bs, rfl, hbs⟩ (by simp)⟩
            unfold Instr.next
            simp only [Sem.run_bind, getObj_ok ho (by simp), Result.andThen_ok, hp, if_true, hdec, hs]
            rfl
          · cases hv
        · simp only [hp, decide_false, cond_false, Res.ok.injEq] at hv
          obtain ⟨rfl, rfl⟩ := hv
          refine ⟨_, w, ?_, over, Ext.rfl hw hlm⟩
          unfold Instr.next
          simp only [Sem.run_bind, getObj_ok ho (by simp), Result.andThen_ok, hp, if_false]
          rfl
    · -- over no map
      rename_i lf cr hb
      simp only [Res.ok.injEq] at hv
      obtain ⟨rfl, rfl⟩ := hv
      cases hx with
      | ptrd _ _ a hd => exact absurd (hw.dead i _ hd hb) (by simp)
      | ptr _ _ b N hl =>
        obtain ⟨o, ho, since, seen, stepped, rfl⟩ := hw.blk i b N _ hl hb
        refine ⟨_, w, ?_, over, Ext.rfl hw hlm⟩
        unfold Instr.next
        simp only [Sem.run_bind, getObj_ok ho (by simp), Result.andThen_ok]
        rfl
    · rename_i r n left cur hb
      split at hv
      · rename_i es n' hr
        cases hq : (Nat.beq n n' && Nat.ble (lenN es) 1) with
        | false => rw [hq] at hv; cases hv
        | true =>
          rw [hq] at hv
          rw [beq_nat, ble_nat, lenN_eq] at hq
          simp only [Bool.and_eq_true, decide_eq_true_eq] at hq
          obtain ⟨rfl, hle⟩ := hq
          simp only [cond_true] at hv
          cases hx with
          | ptrd _ _ a hd => exact absurd (hw.dead i _ hd hb) (by simp)
          | ptr _ _ b N hl =>
            obtain ⟨o, ho, b', since, seen, stepped, es0, m0, rfl, ⟨m', hm'⟩, hr0, _, hir⟩ := hw.blk i b N _ hl hb
            rw [hr] at hr0
            simp only [Option.some.injEq, Blk.map.injEq] at hr0
            obtain ⟨rfl, rfl⟩ := hr0
            obtain ⟨ces, clock, hces, rfl, rfl, hor⟩ := hir rfl
            obtain ⟨o', ho', ces', clock', rfl, hmr, hborn, _⟩ := hw.blk r b' m' _ hm' hr
            have hmr := hmr.small hle
            rw [hces] at ho'
            simp only [Option.some.injEq, Obj.map.injEq] at ho'
            obtain ⟨rfl, rfl⟩ := ho'
            rcases hor with ⟨rfl, rfl, rfl⟩ | ⟨k', u', e, rfl, rfl, rfl, rfl, rfl⟩ | ⟨_, _, _, _, h2, _⟩
            rotate_left 2
            · omega
            · cases hmr' : left with
              | nil =>
                subst hmr'
                simp only [Res.ok.injEq] at hv
                obtain ⟨rfl, rfl⟩ := hv
                have hc0 : ces = #[] := by
                  have := hmr.length
                  simp at this
                  exact Array.eq_empty_of_size_eq_zero this.symm
                subst hc0
                refine ⟨_, w, ?_, over, Ext.rfl hw hlm⟩
                unfold Instr.next
                simp [getObj_ok ho (by simp), getObj_ok hces (by simp), choose, Sem.run, Question.forced]
              | cons p rest =>
                subst hmr'
                obtain ⟨k, x⟩ := p
                simp only [Res.ok.injEq] at hv
                obtain ⟨rfl, rfl⟩ := hv
                have hrest : rest = [] := List.eq_nil_of_length_eq_zero (by simp at hle; simpa using hle)
                subst hrest
                obtain ⟨cl⟩ := ces
                cases hmr with
                | cons _ _ e _ cl' hk hvv t =>
                  cases t
                  have hbe := hborn e (by simp)
                  obtain ⟨w', hs, hat⟩ := setObj_at (P := P) (o' := .mapIter (some b') stepped (#[].push e.born) stepped) ho (by simp)
                  refine ⟨.tuple #[.bool true, e.key, e.val], w', ?_, .tup _ _ (.cons _ _ _ _ (.bool _) (.cons _ _ _ _ hk (.cons _ _ _ _ hvv .nil))), Ext.put hw hlm hl hb (by simp) hat ⟨b', stepped, #[].push e.born, stepped, _, n, rfl, ⟨m', hm'⟩, ?_, Nat.le_refl _, fun _ => ⟨#[e], stepped, ?_, rfl, rfl, .inr (.inl ⟨k, x, e, rfl, rfl, rfl, rfl, rfl⟩)⟩⟩ (by simp)⟩
                  · unfold Instr.next
                    have hnb : ¬ (stepped ≤ e.born) := by omega
                    simp [getObj_ok ho (by simp), getObj_ok hces (by simp), choose, Sem.run, Question.forced, hbe, hnb]
                    simp at hs
                    simp [hs]
                  · have hri : r ≠ i := fun e => by rw [e, hb] at hr; cases hr
                    rw [put_get_ne h _ hri]; exact hr
                  · have hbb : b' ≠ b := fun e => by rw [e, ho] at hces; cases hces
                    rw [hat.other b' hbb]; exact hces
            · simp only [Res.ok.injEq] at hv
              obtain ⟨rfl, rfl⟩ := hv
              refine ⟨_, w, ?_, over, Ext.rfl hw hlm⟩
              have hbe := hborn e (by simp)
              have hnb : ¬ (stepped ≤ e.born) := by omega
              unfold Instr.next
              simp [getObj_ok ho (by simp), getObj_ok hces (by simp), choose, Sem.run, Question.forced, hnb]
      · cases hv
    · cases hv
  · cases hv

theorem cpy_ok {ρ : Ren} {h h' : Hp} {w : World} (hw : WR ρ h w) (hlm : Lim ρ h) {t e sz ty : Nat} {ts : List Nat} {d s v : AV} {ud us : Value} (hu : P.underlying t = some (.slice e)) (hs : szT P e = some (sz + 1)) (hd : VR ρ d ud) (hss : VR ρ s us)
    (hv : cpyV (sz + 1) d s h = .ok v h') (hts : ts.head? = some t := by rfl) : ∃ w' vc, (Builtin.copy_ ⟨ts⟩ ty #[ud, us]).run P w = .ok vc w' ∧ VR ρ v vc ∧ Ext ρ ρ h h' w w' := by
  have ht0 : (⟨ts⟩ : Array Nat)[0]? = some t := by
    cases ts with
    | nil => cases hts
    | cons x l => exact hts
  unfold cpyV at hv
  cases hn : lenV d with
  | none => rw [hn] at hv; cases hv
  | some n =>
    cases hm : lenV s with
    | none => rw [hn, hm] at hv; cases hv
    | some m =>
      rw [hn, hm] at hv; simp only at hv
      cases hf : firstC (sz + 1) (Nat.min m n) s h with
      | none => rw [hf] at hv; cases hv
      | some cs =>
        rw [hf] at hv; simp only at hv
        obtain ⟨vs, g1, g2, g3⟩ := firstC_ok (P := P) hw hss hm (Nat.min_le_left m n) hf
        have hlen := lenV_ok (P := P) hss hm w
        have g3 := g3 w rfl
        split at hv
        · cases hd
          simp only [Res.ok.injEq] at hv
          obtain ⟨rfl, rfl⟩ := hv
          simp only [lenV, Option.some.injEq] at hn
          subst hn
          refine ⟨w, _, ?_, .int _ _, Ext.rfl hw hlm⟩
          have hmin : Nat.min m 0 = 0 := Nat.min_zero m
          simp only [hmin] at g3
          unfold Builtin.copy_
          simp only [ht0, List.getElem?_toArray, List.getElem?_cons_zero, List.getElem?_cons_succ, Sem.run_bind, run_underlying hu, Result.andThen_ok, hlen, sizeOf_ok hs w, hmin, g3]
          rfl
        · rename_i i off len cap z
          split at hv
          · rename_i c top hb
            cases hq : (Nat.beq z (sz + 1) && Nat.ble (Nat.add off (Nat.mul (Nat.min m n) (sz + 1))) top && scals cs) with
            | false => rw [hq] at hv; cases hv
            | true =>
              rw [hq] at hv
              rw [beq_nat, ble_nat, show Nat.add off (Nat.mul (Nat.min m n) (sz + 1)) = off + Nat.min m n * (sz + 1) from rfl] at hq
              simp only [Bool.and_eq_true, decide_eq_true_eq] at hq
              obtain ⟨⟨rfl, htop⟩, hsc⟩ := hq
              simp only [cond_true, Res.ok.injEq] at hv
              obtain ⟨rfl, rfl⟩ := hv
              have hcl : cs.length = Nat.min m n * (sz + 1) := g1.length.trans g2
              cases hd with
              | sld _ _ _ _ _ a c' hdd _ _ => exact absurd (hw.dead i _ hdd hb) (by simp)
              | sl _ _ _ _ _ b N c' hl q1 q2 q3 =>
                simp only [lenV, Option.some.injEq] at hn
                subst hn
                obtain ⟨p1, p2⟩ := store_ok (P := P) hw hlm hl hb g1 hsc (by rw [hcl]; exact htop)
                refine ⟨_, _, ?_, .int _ _, p2⟩
                unfold Builtin.copy_
                simp only [ht0, List.getElem?_toArray, List.getElem?_cons_zero, List.getElem?_cons_succ, Sem.run_bind, run_underlying hu, Result.andThen_ok, hlen, sizeOf_ok hs w, g3, p1]
                rfl
              | slz _ _ _ a hne =>
                simp only [lenV, Option.some.injEq] at hn
                subst hn
                have hmin : Nat.min m 0 = 0 := Nat.min_zero m
                have hvs : vs = [] := List.eq_nil_of_length_eq_zero (by rw [g2, Nat.min_zero]; simp)
                subst hvs
                cases g1
                have hlive : ∃ b N, ρ i = .live b N := by
                  cases hr : ρ i with
                  | no => exact absurd hr hne
                  | dead => exact absurd (hw.dead i _ hr hb) (by simp)
                  | live b N => exact ⟨b, N, rfl⟩
                obtain ⟨b, N, hl⟩ := hlive
                obtain ⟨p1, p2⟩ := store_ok (P := P) hw hlm (off := off) hl hb .nil rfl (by rw [hmin] at htop; simpa using htop)
                refine ⟨w, _, ?_, .int _ _, p2⟩
                simp only [hmin] at g3
                unfold Builtin.copy_
                simp only [ht0, List.getElem?_toArray, List.getElem?_cons_zero, List.getElem?_cons_succ, Sem.run_bind, run_underlying hu, Result.andThen_ok, hlen, sizeOf_ok hs w, hmin, g3]
                rfl
          · cases hv
        · cases hv

theorem clr_ok {ρ : Ren} {h h' : Hp} {w : World} (hw : WR ρ h w) (hlm : Lim ρ h) {t e sz ty : Nat} {ts : List Nat} {zs : List AV} {x v : AV} {ux : Value} (hu : P.underlying t = some (.slice e)) (_ : szT P e = some (sz + 1)) (hz : zeroC P e = some zs) (hzl : zs.length = sz + 1) (hx : VR ρ x ux)
    (hv : clrV (sz + 1) zs x h = .ok v h') (hts : ts.head? = some t := by rfl) : ∃ w', (Builtin.clear_ ⟨ts⟩ ty #[ux]).run P w = .ok (.tuple #[]) w' ∧ v = .tup [] ∧ Ext ρ ρ h h' w w' := by
  have ht0 : (⟨ts⟩ : Array Nat)[0]? = some t := by
    cases ts with
    | nil => cases hts
    | cons x l => exact hts
  unfold clrV at hv
  split at hv
  · cases hx
    simp only [Res.ok.injEq] at hv
    obtain ⟨rfl, rfl⟩ := hv
    refine ⟨w, ?_, rfl, Ext.rfl hw hlm⟩
    unfold Builtin.clear_
    simp only [ht0, List.getElem?_toArray, List.getElem?_cons_zero, Sem.run_bind, run_underlying hu, Result.andThen_ok]
    rfl
  · rename_i i off n cap z
    split at hv
    · rename_i c top hb
      cases hq : (Nat.beq z (sz + 1) && Nat.ble (Nat.add off (Nat.mul n (sz + 1))) top && scals zs) with
      | false => rw [hq] at hv; cases hv
      | true =>
        rw [hq] at hv
        rw [beq_nat, ble_nat, show Nat.add off (Nat.mul n (sz + 1)) = off + n * (sz + 1) from rfl] at hq
        simp only [Bool.and_eq_true, decide_eq_true_eq] at hq
        obtain ⟨⟨rfl, htop⟩, hsc⟩ := hq
        simp only [cond_true, Res.ok.injEq] at hv
        obtain ⟨rfl, rfl⟩ := hv
        obtain ⟨zv, hzr, rfl⟩ := zero_cells hz
        have hzsz : zv.cells.size = sz + 1 := by simpa using hzl
        have hrep := repL_ok (c1s_ok ρ zv.cells.toList) n
        have hrl : (repL (zv.cells.toList.map c1) n).length = n * (sz + 1) := by rw [hrep.length, repV_length]; simp [hzsz]
        have hscr : ∀ (l : List AV), scals l = true → ∀ n, scals (repL l n) = true := by
          intro l hl n
          have happ : ∀ a b : List AV, scals a = true → scals b = true → scals (a ++ b) = true := by
            intro a
            induction a with
            | nil => intro b _ hb; exact hb
            | cons p a ih =>
              intro b ha hb
              rw [scals_cons] at ha
              rw [List.cons_append, scals_cons]
              cases hc : scal p with
              | false => rw [hc] at ha; cases ha
              | true => rw [hc] at ha; exact ih b ha hb
          induction n with
          | zero => rfl
          | succ n ih => rw [repL_succ]; exact happ _ _ hl ih
        have hzc : (Builtin.zeroCells zv.cells n).toList = repV zv.cells.toList n := by
          rw [← range_rep zv.cells n (by omega)]
          rfl
        cases hx with
        | sld _ _ _ _ _ a c' hdd _ _ => exact absurd (hw.dead i _ hdd hb) (by simp)
        | sl _ _ _ _ _ b N c' hl q1 q2 q3 =>
          obtain ⟨p1, p2⟩ := store_ok (P := P) hw hlm hl hb hrep (hscr _ hsc n) (by rw [hrl]; exact htop)
          refine ⟨_, ?_, rfl, p2⟩
          cases n with
          | zero =>
            unfold Builtin.clear_
            simp only [ht0, List.getElem?_toArray, List.getElem?_cons_zero, Sem.run_bind, run_underlying hu, Result.andThen_ok]
            rfl
          | succ n =>
            unfold Builtin.clear_
            simp only [ht0, List.getElem?_toArray, List.getElem?_cons_zero, Sem.run_bind, run_underlying hu, Result.andThen_ok, hzr, hzc, p1]
            rfl
        | slz _ _ _ a hne =>
          have hlive : ∃ b N, ρ i = .live b N := by
            cases hr : ρ i with
            | no => exact absurd hr hne
            | dead => exact absurd (hw.dead i _ hr hb) (by simp)
            | live b N => exact ⟨b, N, rfl⟩
          obtain ⟨b, N, hl⟩ := hlive
          obtain ⟨p1, p2⟩ := store_ok (P := P) hw hlm (off := off) hl hb .nil rfl (by simpa using htop)
          refine ⟨w, ?_, rfl, p2⟩
          unfold Builtin.clear_
          simp only [ht0, List.getElem?_toArray, List.getElem?_cons_zero, Sem.run_bind, run_underlying hu, Result.andThen_ok]
          rfl
    · cases hv
  · cases hv

theorem sound_e {o : Oper} {ds : List (Option Nat)} {eop : EOp} {F : Fr} {L : List AV} {v : AV} {a : Act} {w : World} {ρ : Ren} {h h' : Hp} (hw : WR ρ h w) (hlm : Lim ρ h) (hc : compOp P ds o = .e eop)
    (hx : ∀ x ∈ o.op.operands, VR ρ (ev F L (co ds x)) (a.eval x)) (hv : eopX eop F L h = .ok v h') : Acted P ρ a h h' w o v := by
  obtain ⟨dst, op, type, pos, after, guard⟩ := o
  cases op <;> simp only [compOp, reduceCtorEq] at hc
  case alloc e => exfalso; split at hc <;> cases hc
  case build t ps => exfalso; unfold compBuild at hc; simp only [Bool.cond_eq_ite] at hc; (repeat' split at hc) <;> cases hc
  case buildSlice t n ps => exfalso; unfold compBslice at hc; simp only [Bool.cond_eq_ite] at hc; (repeat' split at hc) <;> cases hc
  case load t x => exfalso; (repeat' split at hc) <;> cases hc
  case store t x y =>
    have h1 := hx x (by simp [Op.operands])
    have h2 := hx y (by simp [Op.operands])
    split at hc
    · rename_i n hs
      simp only [XOp.e.injEq] at hc; subst hc
      obtain ⟨w', g1, rfl, g2⟩ := st_ok hw hlm hs h1 h2 hv
      exact ⟨_, _, w', ρ, exec_u g1, .inr ⟨rfl, rfl⟩, tup0, g2⟩
    · cases hc
  case binOp bop t x y yt => exfalso; simp only [Bool.cond_eq_ite] at hc; (repeat' split at hc) <;> cases hc
  case convert s d x => exfalso; (repeat' split at hc) <;> cases hc
  case makeInterface t x => exfalso; split at hc <;> cases hc
  case makeFunc fn xs ys => exfalso; cases fn <;> simp only [reduceCtorEq] at hc <;> split at hc <;> cases hc
  case makeMap t r => exfalso; cases r <;> simp only [reduceCtorEq] at hc; split at hc <;> cases hc
  case makeSlice t l c => exfalso; simp only [Bool.cond_eq_ite] at hc; (repeat' split at hc) <;> cases hc
  case slice t x lo hi mx => exfalso; (repeat' split at hc) <;> cases hc
  case fieldAddr t x f => exfalso; (repeat' split at hc) <;> cases hc
  case field t x f => exfalso; (repeat' split at hc) <;> cases hc
  case indexAddr t x ix => exfalso; (repeat' split at hc) <;> cases hc
  case index t x ix => exfalso; (repeat' split at hc) <;> cases hc
  case lookup t x ix ok => exfalso; (repeat' split at hc) <;> cases hc
  case mapUpdate t x y z =>
    have h1 := hx x (by simp [Op.operands])
    have h2 := hx y (by simp [Op.operands])
    have h3 := hx z (by simp [Op.operands])
    split at hc
    · rename_i kt e hu
      split at hc
      · rename_i kc hkc
        simp only [XOp.e.injEq] at hc; subst hc
        obtain ⟨w', g1, rfl, g2⟩ := mup_ok hw hlm hu hkc h1 h2 h3 hv
        exact ⟨_, _, w', ρ, exec_u g1, .inr ⟨rfl, rfl⟩, tup0, g2⟩
      · cases hc
    · cases hc
  case insert t x y z =>
    have h1 := hx x (by simp [Op.operands])
    have h2 := hx y (by simp [Op.operands])
    have h3 := hx z (by simp [Op.operands])
    split at hc
    · rename_i kt e hu
      split at hc
      · rename_i kc hkc
        simp only [XOp.e.injEq] at hc; subst hc
        obtain ⟨w', g1, rfl, g2⟩ := mup_ok hw hlm hu hkc h1 h2 h3 hv
        exact ⟨_, _, w', ρ, exec_u g1, .inr ⟨rfl, rfl⟩, tup0, g2⟩
      · cases hc
    · cases hc
  case range t x =>
    have h1 := hx x (by simp [Op.operands])
    have fin : ∀ (k : Blk) (o : Obj), (∀ ρ', ρ.le ρ' → ρ' h.next = .live w.heap.size 0 → (∀ j, j ≠ h.next → ρ' j = ρ j) → BR ρ' (h.new k) { w with heap := w.heap.push o } 0 k o) →
        (execOp a.eval ⟨dst, .range t x, type, pos, after, guard⟩).run P w = .ok (.value (.pointer (some ⟨w.heap.size, 0, none⟩))) { w with heap := w.heap.push o } →
        Acted P ρ a h (h.new k) w ⟨dst, .range t x, type, pos, after, guard⟩ (.ptr h.next 0) := fun k o hb hr =>
      ⟨_, _, _, _, hr, .inl rfl, .ptr _ _ _ _ (Ren.upd_same _ _ _), Ext.new hw hlm ⟨rfl, rfl, rfl, rfl⟩ hb⟩
    split at hc
    · rename_i hu
      simp only [XOp.e.injEq] at hc; subst hc
      have hv : rngsV (ev F L (co ds x)) h = .ok v h' := hv
      unfold rngsV at hv
      split at hv
      · rename_i s heq
        rw [heq] at h1
        simp only [Res.ok.injEq] at hv
        obtain ⟨rfl, rfl⟩ := hv
        generalize hq : a.eval x = q at h1
        cases h1
        rename_i bs hbs
        refine fin _ (.stringIter bs 0) (fun ρ' _ _ _ => ⟨bs, rfl, hbs⟩) ?_
        simp only [execOp, hq]
        refine exec_v ?_
        unfold Instr.range
        simp only [Sem.run_bind, run_underlying hu, Result.andThen_ok]
        rfl
      · cases hv
    · rename_i kt e hu
      simp only [XOp.e.injEq] at hc; subst hc
      have hv : rngmV (ev F L (co ds x)) h = .ok v h' := hv
      unfold rngmV at hv
      split at hv
      · rename_i heq
        rw [heq] at h1
        simp only [Res.ok.injEq] at hv
        obtain ⟨rfl, rfl⟩ := hv
        generalize hq : a.eval x = q at h1
        cases h1
        refine fin _ (.mapIter none 0 #[] 0) (fun ρ' _ _ _ => ⟨0, #[], 0, rfl⟩) ?_
        simp only [execOp, hq]
        refine exec_v ?_
        unfold Instr.range
        simp only [Sem.run_bind, run_underlying hu, Result.andThen_ok]
        rfl
      · rename_i r heq
        rw [heq] at h1
        split at hv
        · rename_i es n hr
          simp only [Res.ok.injEq] at hv
          obtain ⟨rfl, rfl⟩ := hv
          obtain ⟨b, N, ces, clock, hq, hl, ho, hmr, hborn, _⟩ := hw.map h1 hr
          have hrn : r ≠ h.next := fun e => by have := hlm.lt hl; omega
          refine fin _ (.mapIter (some b) clock #[] clock) (fun ρ' hle _ hoth => ⟨b, clock, #[], clock, es, n, rfl, ⟨N, by rw [hoth r hrn]; exact hl⟩, by rw [new_get_ne h _ hrn]; exact hr, Nat.le_refl _, fun _ => ⟨ces, clock, ?_, rfl, rfl, .inl ⟨rfl, rfl, rfl⟩⟩⟩) ?_
          · show (w.heap.push _)[b]? = _
            have := hw.bd r b N hl
            rw [Array.getElem?_push_lt this]
            rw [Array.getElem?_eq_getElem this] at ho
            exact ho
          simp only [execOp, hq]
          refine exec_v ?_
          unfold Instr.range
          simp only [Sem.run_bind, run_underlying hu, Result.andThen_ok, getObj_ok ho (by simp)]
          rfl
        · cases hv
      · cases hv
    · cases hc
  case next x s =>
    have h1 := hx x (by simp [Op.operands])
    simp only [XOp.e.injEq] at hc; subst hc
    obtain ⟨vc, w', g1, g2, g3⟩ := nxt_ok hw hlm h1 hv
    exact ⟨_, vc, w', ρ, exec_v g1, .inl rfl, g2, g3⟩
  case call c =>
    obtain ⟨callee, args, argTypes⟩ := c
    cases callee with
    | value f => exfalso; cases f <;> simp only [reduceCtorEq] at hc
    | invoke r m => exfalso; simp only [reduceCtorEq] at hc
    | builtin b =>
      simp only at hc
      have hargs : ∀ x ∈ args.toList, VR ρ (ev F L (co ds x)) (a.eval x) := fun x h => hx x (by simp only [Op.operands, Call.operands]; simpa using h)
      obtain ⟨al⟩ := args
      obtain ⟨tl⟩ := argTypes
      simp only at hc hargs
      unfold compBuiltin at hc
      split at hc
      · exfalso; (repeat' split at hc) <;> cases hc
      · exfalso; (repeat' split at hc) <;> cases hc
      · -- append
        rename_i s x
        have h1 := hargs s (by simp)
        have h2 := hargs x (by simp)
        have run : ∀ (ts : Array Nat) (u : Value) (w' : World), (Builtin.append_ ts type #[a.eval s, a.eval x]).run P w = .ok u w' → (execOp a.eval ⟨dst, .call ⟨.builtin .append, ⟨[s, x]⟩, ts⟩, type, pos, after, guard⟩).run P w = .ok (.value u) w' := fun ts u w' h => by
          simp only [execOp, resolve, Sem.run_bind, Sem.run_pure, Result.andThen_ok, invoke]
          exact exec_v (by rw [show Array.map a.eval ⟨[s, x]⟩ = #[a.eval s, a.eval x] by simp]; exact h)
        split at hc
        · rename_i t u
          cases hu : P.underlying t with
          | none => rw [hu] at hc; cases hc
          | some d =>
            rw [hu] at hc
            cases d <;> simp only [reduceCtorEq] at hc
            rename_i e
            cases hs : szT P e with
            | none => rw [hs] at hc; cases hc
            | some sz =>
              rw [hs] at hc
              cases sz with
              | zero => cases hc
              | succ sz =>
                simp only at hc
                cases hz : zeroC P e with
                | none => rw [hz] at hc; cases hc
                | some zs =>
                  rw [hz] at hc; simp only at hc
                  cases hb : (Nat.beq zs.length (sz + 1) && Nat.ble (P.bytesOf e) 1048576) with
                  | false => rw [hb] at hc; cases hc
                  | true =>
                    rw [hb] at hc; simp only [cond_true] at hc
                    rw [ble_nat, beq_nat] at hb
                    simp only [Bool.and_eq_true, decide_eq_true_eq] at hb
                    obtain ⟨i, hi, hisz⟩ := szT_info hs
                    obtain ⟨i', z, hi', hiz, rfl⟩ := zeroC_info hz
                    rw [hi] at hi'
                    simp only [Option.some.injEq] at hi'
                    subst hi'
                    have hzsz : z.cells.size = sz + 1 := by simpa using hb.1
                    have hby : i.bytes ≤ 1048576 := by
                      have := hb.2
                      unfold Program.bytesOf at this
                      rw [hi] at this
                      simpa using this
                    have plain : (∃ e', P.underlying u = some (.slice e')) ∨ P.underlying u = some .string → appsV (sz + 1) (P.bytesOf e) (ev F L (co ds s)) (ev F L (co ds x)) h = .ok v h' → Acted P ρ a h h' w ⟨dst, .call ⟨.builtin .append, ⟨[s, x]⟩, ⟨[t, u]⟩⟩, type, pos, after, guard⟩ v := fun huu hv => by
                      unfold appsV at hv
                      cases hn : lenV (ev F L (co ds x)) with
                      | none => rw [hn] at hv; cases hv
                      | some n =>
                        rw [hn] at hv; simp only at hv
                        cases hf : firstC (sz + 1) n (ev F L (co ds x)) h with
                        | none => rw [hf] at hv; cases hv
                        | some cs =>
                          rw [hf] at hv; simp only at hv
                          obtain ⟨vs, g1, g2, g3⟩ := firstC_ok (P := P) hw h2 hn (Nat.le_refl _) hf
                          obtain ⟨r1, r2, r3⟩ := app_run (ty := type) (us := a.eval s) (w := w) hu hi hisz hiz hzsz hby huu (lenV_ok h2 hn w) g3
                          obtain ⟨vc, w', ρ', q1, q2, q3⟩ := appV_ok hw hlm (Nat.succ_pos _) h1 g1 g2 hv r1 r2 r3
                          exact ⟨_, vc, w', ρ', run _ _ _ q1, .inl rfl, q2, q3⟩
                    split at hc
                    · rename_i k huu
                      simp only [XOp.e.injEq] at hc; subst hc
                      have hv : appzV (sz + 1) (P.bytesOf e) (z.cells.toList.map c1) (ev F L (co ds s)) (ev F L (co ds x)) h = .ok v h' := hv
                      unfold appzV at hv
                      cases hn : nat? (ev F L (co ds x)) with
                      | none => rw [hn] at hv; cases hv
                      | some n =>
                        rw [hn] at hv; simp only at hv
                        rw [ble_nat] at hv
                        by_cases hn0 : n ≤ 16777216
                        · simp only [hn0, decide_true, cond_true] at hv
                          obtain ⟨k', hk⟩ := nat?_ok h2 hn
                          obtain ⟨r1, r2, r3⟩ := appz_run (ty := type) (us := a.eval s) (w := w) (k' := k') hu hi hisz hiz hzsz hby huu hn0 (Nat.succ_pos _)
                          rw [← hk] at r1 r2 r3
                          have hlen : (repV z.cells.toList n).length = n * (sz + 1) := by rw [repV_length]; simp [hzsz]
                          obtain ⟨vc, w', ρ', q1, q2, q3⟩ := appV_ok hw hlm (Nat.succ_pos _) h1 (repL_ok (c1s_ok ρ _) n) hlen hv r1 r2 r3
                          exact ⟨_, vc, w', ρ', run _ _ _ q1, .inl rfl, q2, q3⟩
                        · simp [hn0] at hv
                    · rename_i e' huu
                      simp only [XOp.e.injEq] at hc; subst hc
                      exact plain (.inl ⟨e', huu⟩) hv
                    · rename_i huu
                      simp only [XOp.e.injEq] at hc; subst hc
                      exact plain (.inr huu) hv
                    · cases hc
        · cases hc
      · exfalso; cases hc
      · exfalso; cases hc
      · -- copy
        rename_i d s
        have h1 := hargs d (by simp)
        have h2 := hargs s (by simp)
        split at hc
        · rename_i t ts
          split at hc <;> try (cases hc; done)
          rename_i e hu
          split at hc <;> try (cases hc; done)
          rename_i sz hs
          simp only [XOp.e.injEq] at hc; subst hc
          have hv : cpyV (sz + 1) (ev F L (co ds d)) (ev F L (co ds s)) h = .ok v h' := hv
          obtain ⟨w', vc, g1, g2, g3⟩ := cpy_ok (P := P) (ts := t :: ts) (ty := type) hw hlm hu hs h1 h2 hv
          refine ⟨_, _, w', ρ, ?_, .inl rfl, g2, g3⟩
          simp only [execOp, resolve, Sem.run_bind, Sem.run_pure, Result.andThen_ok, invoke]
          exact exec_v (by rw [show Array.map a.eval ⟨[d, s]⟩ = #[a.eval d, a.eval s] by simp]; exact g1)
        · cases hc
      · -- delete
        rename_i m k
        have h1 := hargs m (by simp)
        have h2 := hargs k (by simp)
        split at hc
        · rename_i t ts
          split at hc <;> try (cases hc; done)
          rename_i kt e hu
          split at hc <;> try (cases hc; done)
          rename_i kc hkc
          simp only [XOp.e.injEq] at hc; subst hc
          obtain ⟨w', g1, rfl, g2⟩ := del_ok (ty := type) hw hlm hu hkc h1 h2 hv ⟨t :: ts⟩ rfl
          refine ⟨_, _, w', ρ, ?_, .inl rfl, tup0, g2⟩
          simp only [execOp, resolve, Sem.run_bind, Sem.run_pure, Result.andThen_ok, invoke]
          exact exec_v (by rw [show Array.map a.eval ⟨[m, k]⟩ = #[a.eval m, a.eval k] by simp]; exact g1)
        · cases hc
      · -- clear
        rename_i x
        have h1 := hargs x (by simp)
        split at hc
        · rename_i t ts
          split at hc <;> try (cases hc; done)
          rename_i e hu
          split at hc <;> try (cases hc; done)
          rename_i sz hs
          split at hc <;> try (cases hc; done)
          rename_i zs hz
          simp only [Bool.cond_eq_ite] at hc
          split at hc <;> try (cases hc; done)
          rename_i hb
          rw [beq_nat] at hb
          simp only [decide_eq_true_eq] at hb
          simp only [XOp.e.injEq] at hc; subst hc
          have hv : clrV (sz + 1) zs (ev F L (co ds x)) h = .ok v h' := hv
          obtain ⟨w', g1, rfl, g2⟩ := clr_ok (P := P) (ts := t :: ts) (ty := type) hw hlm hu hs hz hb h1 hv
          refine ⟨_, _, w', ρ, ?_, .inl rfl, tup0, g2⟩
          simp only [execOp, resolve, Sem.run_bind, Sem.run_pure, Result.andThen_ok, invoke]
          exact exec_v (by rw [show Array.map a.eval ⟨[x]⟩ = #[a.eval x] by simp]; exact g1)
        · cases hc
      all_goals (exfalso; cases hc)
end
end Hx
