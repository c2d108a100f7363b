/- The evaluator: operations that make memory: the theorem. -/
import Derived.Test.YtopkkjgjohgogaaGreatDoorHxI
import Derived.Laws.IdiomStrings
namespace Hx
open Go

section
variable {P : Program}

theorem setCells_nil (t : Tr AV) (off : Nat) : setCells [] t off = t := rfl
theorem setCells_cons (v : AV) (l : List AV) (t : Tr AV) (off : Nat) : setCells (v :: l) t off = setCells l (t.set off v) (off + 1) := rfl
theorem setCells_get : ∀ (l : List AV) (t : Tr AV) (off k : Nat), (setCells l t off).get k = if off ≤ k ∧ k < off + l.length then l[k - off]? else t.get k
  | [], t, off, k => by rw [setCells_nil, if_neg (by simp)]
  | v :: l, t, off, k => by
    rw [setCells_cons, setCells_get l]
    by_cases h1 : off + 1 ≤ k ∧ k < off + 1 + l.length
    · rw [if_pos h1, if_pos (by simp; omega)]
      obtain ⟨j, rfl⟩ : ∃ j, k = off + 1 + j := ⟨k - (off + 1), by omega⟩
      rw [show off + 1 + j - off = j + 1 by omega, show off + 1 + j - (off + 1) = j by omega]; simp
    · rw [if_neg h1]
      by_cases h2 : k = off
      · subst h2; rw [Tr.get_set_same, if_pos (by simp)]; simp
      · rw [Tr.get_set_ne _ _ h2, if_neg (by simp; omega)]
theorem ofL_get (l : List AV) (k : Nat) (h : k < l.length) : (ofL l).get k = l[k]? := by
  show (setCells l .nil 0).get k = _
  rw [setCells_get, if_pos (by omega)]; simp

theorem blkL_ok {ρ ρ' : Ren} {h : Hp} {w : World} {l : List AV} {cs : Array Value} {e : Nat} {fr : Nat × Nat} (hl : VRs ρ l cs.toList) (hle : ρ.le ρ') (hfr : ∀ k, k < cs.size → ¬ (fr.1 ≤ k ∧ k < fr.2)) : BR ρ' h w cs.size (blkL l) (.cells cs e fr) := by
  have hlen : l.length = cs.size := by rw [hl.length]; simp
  refine ⟨cs, e, fr, rfl, rfl, by rw [lenN_eq]; omega, fun k v hk hv => ?_, fun _ => hfr⟩
  rw [lenN_eq] at hk
  rw [ofL_get l k hk] at hv
  obtain ⟨u, h1, h2⟩ := hl.get hv
  exact ⟨u, by simpa using h1, h2.mono hle⟩

theorem repL_succ (l : List AV) (n : Nat) : repL l (n + 1) = l ++ repL l n := rfl
def repV (l : List Value) : Nat → List Value
  | 0 => []
  | n + 1 => l ++ repV l n
theorem repL_ok {ρ : Ren} {l : List AV} {vs : List Value} (h : VRs ρ l vs) : ∀ n, VRs ρ (repL l n) (repV vs n)
  | 0 => .nil
  | n + 1 => h.append (repL_ok h n)
theorem repV_length (l : List Value) : ∀ n, (repV l n).length = n * l.length
  | 0 => by simp [repV]
  | n + 1 => by simp [repV, repV_length l n, Nat.add_mul]; omega
theorem repV_get (l : List Value) (hl : 0 < l.length) : ∀ (n i : Nat), i < n * l.length → (repV l n)[i]? = l[i % l.length]?
  | 0, i, h => by simp at h
  | n + 1, i, h => by
    simp only [repV]
    by_cases hi : i < l.length
    · rw [List.getElem?_append_left hi, Nat.mod_eq_of_lt hi]
    · rw [List.getElem?_append_right (by omega), repV_get l hl n (i - l.length) (by rw [Nat.add_mul] at h; omega)]
      congr 1
      exact (Nat.mod_eq_sub_mod (by omega)).symm
theorem range_rep (z : Array Value) (n : Nat) (hz : 0 < z.size) : ((Array.range (n * z.size)).map fun i => z[i % z.size]!).toList = repV z.toList n := by
  apply List.ext_getElem?
  intro i
  by_cases hi : i < n * z.size
  · have hm : i % z.size < z.size := Nat.mod_lt _ hz
    rw [repV_get _ (by simpa using hz) n i (by simpa using hi)]
    simp [hi, hm]
  · have h1 := repV_length z.toList n
    rw [List.getElem?_eq_none (by simp; omega), List.getElem?_eq_none (by rw [h1]; simp; omega)]

theorem byteV_cons (b : Nat) (l : List Nat) : byteV (b :: l) = AV.int .u8 (Int.ofNat b) :: byteV l := rfl
theorem byteV_length : ∀ l : List Nat, (byteV l).length = l.length
  | [] => rfl
  | b :: l => by rw [byteV_cons]; simp [byteV_length l]
theorem byteV_get : ∀ (l : List Nat) (k : Nat), (byteV l)[k]? = l[k]?.map fun b => AV.int .u8 (Int.ofNat b)
  | [], k => rfl
  | b :: l, 0 => rfl
  | b :: l, k + 1 => by rw [byteV_cons]; simp only [List.getElem?_cons_succ]; exact byteV_get l k

/-- what making memory leaves -/
def Made (P : Program) (ρ : Ren) (a : Act) (w : World) (o : Oper) (B : Blk) (mk : Mk) : Prop :=
  ∃ (obj : Obj) (vc : Value) (w' : World) (n : Nat), (execOp a.eval o).run P w = .ok (.value vc) w' ∧ w'.heap = w.heap.push obj ∧ w'.tape = w.tape ∧ w'.os = w.os ∧ w'.output = w.output ∧
    (∀ ρ' i, ρ.le ρ' → ρ' i = .live w.heap.size n → VR ρ' (mk.val i) vc) ∧ (∀ ρ' h' w'', ρ.le ρ' → BR ρ' h' w'' n B obj)

theorem made_ptr {ρ : Ren} {a : Act} {w : World} {o : Oper} {l : List AV} {cs : Array Value} {e : Nat} (hl : VRs ρ l cs.toList) (hr : (execOp a.eval o).run P w = .ok (.value (.pointer (some ⟨w.heap.size, 0, none⟩))) { w with heap := w.heap.push (.cells cs e) }) :
    Made P ρ a w o (blkL l) .ptr :=
  ⟨.cells cs e, _, _, cs.size, hr, rfl, rfl, rfl, rfl, fun ρ' i _ hi => .ptr _ _ _ _ hi, fun ρ' h' w'' hle => blkL_ok hl hle (fun k _ => by simp)⟩

theorem made_sl {ρ : Ren} {a : Act} {w : World} {o : Oper} {l : List AV} {cs : Array Value} {e n m c esz : Nat} (hl : VRs ρ l cs.toList) (hnm : n ≤ m) (hmc : m ≤ c) (hcs : c * esz ≤ cs.size) (hr : (execOp a.eval o).run P w = .ok (.value (.slice (some ⟨w.heap.size, 0, none⟩) n c)) { w with heap := w.heap.push (.cells cs e) }) :
    Made P ρ a w o (blkL l) (.sl n m esz) :=
  ⟨.cells cs e, _, _, cs.size, hr, rfl, rfl, rfl, rfl, fun ρ' i _ hi => .sl _ _ _ _ _ _ _ _ hi hmc hnm (by simpa using hcs), fun ρ' h' w'' hle => blkL_ok hl hle (fun k _ => by simp)⟩

theorem zero_cells {t : Nat} {zs : List AV} (hz : zeroC P t = some zs) : ∃ z : Value, (∀ w, (zeroValue t).run P w = .ok z w) ∧ zs = z.cells.toList.map c1 := by
  obtain ⟨i, z, hi, hiz, rfl⟩ := zeroC_info hz
  exact ⟨z, fun w => by simp [zeroValue, typeInfo, hi, hiz], rfl⟩

theorem sound_a {o : Oper} {ds : List (Option Nat)} {aop : AOp} {F : Fr} {L : List AV} {B : Blk} {mk : Mk} {a : Act} {w : World} {ρ : Ren} (hc : compOp P ds o = .a aop)
    (hx : ∀ x ∈ o.op.operands, VR ρ (ev F L (co ds x)) (a.eval x)) (hv : aopX aop F L = some (B, mk)) : Made P ρ a w o B mk := by
  obtain ⟨dst, op, type, pos, after, guard⟩ := o
  cases op <;> simp only [compOp, reduceCtorEq] at hc
  case alloc e =>
    cases hz : zeroC P e with
    | none => rw [hz] at hc; cases hc
    | some zs =>
      rw [hz] at hc; simp only [XOp.a.injEq] at hc; subst hc
      have hv : some (blkL zs, Mk.ptr) = some (B, mk) := hv
      simp only [Option.some.injEq, Prod.mk.injEq] at hv
      obtain ⟨rfl, rfl⟩ := hv
      obtain ⟨z, hzr, rfl⟩ := zero_cells hz
      refine made_ptr (cs := z.cells) (e := e) (c1s_ok ρ _) ?_
      simp only [execOp]
      refine exec_v ?_
      unfold Instr.alloc
      simp only [Sem.run_bind, hzr, Result.andThen_ok]
      rfl
  case box e x =>
    have h1 := hx x (by simp [Op.operands])
    simp only [XOp.a.injEq] at hc; subst hc
    have hv : (match cells? (ev F L (co ds x)) with | some l => some (blkL l, Mk.ptr) | none => none) = some (B, mk) := hv
    cases hcl : cells? (ev F L (co ds x)) with
    | none => rw [hcl] at hv; cases hv
    | some l =>
      rw [hcl] at hv
      simp only [Option.some.injEq, Prod.mk.injEq] at hv
      obtain ⟨rfl, rfl⟩ := hv
      refine made_ptr (cs := (a.eval x).cells) (e := e) (cells?_ok h1 hcl) ?_
      simp only [execOp]
      exact exec_v rfl
  case build t ps => exfalso; unfold compBuild at hc; simp only [Bool.cond_eq_ite] at hc; (repeat' split at hc) <;> cases hc
  case buildSlice t n ps =>
    unfold compBslice at hc
    cases hu : P.underlying t with
    | none => rw [hu] at hc; cases hc
    | some d =>
      rw [hu] at hc
      cases d <;> simp only [reduceCtorEq] at hc
      rename_i e
      cases hs : szT P e with
      | none => rw [hs] at hc; cases hc
      | some sz =>
        rw [hs] at hc
        cases sz with
        | zero => cases hc
        | succ sz =>
          simp only at hc
          cases hz : zeroC P e with
          | none => rw [hz] at hc; cases hc
          | some zs =>
            rw [hz] at hc; simp only at hc
            cases hb : (Nat.ble (n * (sz + 1)) 16777216 && Nat.beq zs.length (sz + 1)) with
            | false => rw [hb] at hc; cases hc
            | true =>
              rw [hb] at hc; simp only [cond_true] at hc
              rw [ble_nat, beq_nat] at hb
              simp only [Bool.and_eq_true, decide_eq_true_eq] at hb
              cases hp : parts (placeA (sz + 1)) ds ps.toList with
              | none => rw [hp] at hc; cases hc
              | some l =>
                rw [hp] at hc; simp only [XOp.a.injEq] at hc; subst hc
                have hv : (match fillL F L l (repL zs n) with | some cs => some (blkL cs, Mk.sl n n (sz + 1)) | none => none) = some (B, mk) := hv
                cases hfl : fillL F L l (repL zs n) with
                | none => rw [hfl] at hv; cases hv
                | some cs =>
                  rw [hfl] at hv; simp only [Option.some.injEq, Prod.mk.injEq] at hv
                  obtain ⟨rfl, rfl⟩ := hv
                  obtain ⟨z, hzr, rfl⟩ := zero_cells hz
                  have hzsz : z.cells.size = sz + 1 := by simpa using hb.2
                  have hrng := range_rep z.cells n (by omega)
                  rw [hzsz] at hrng
                  obtain ⟨cells', g1, g2⟩ := fill_ok (place := fun i => some (i * (sz + 1), sz + 1)) (f := placeA (sz + 1)) (fun _ _ h => h) (g := a.eval) (ρ := ρ) ps.toList l _ cs ((Array.range (n * (sz + 1))).map fun i => z.cells[i % (sz + 1)]!) hp hfl
                    (by rw [hrng]; exact repL_ok (c1s_ok ρ _) n) (fun p hp => hx p.2 (by simp only [Op.operands, List.mem_toArray, List.mem_map]; exact ⟨p, hp, rfl⟩))
                  have hcsz : cells'.size = n * (sz + 1) := by
                    have h1 : cells'.toList.length = cs.length := g2.length.symm
                    have h2 : ∀ (ps : List (Nat × Nat × XO)) (a b : List AV), fillL F L ps a = some b → b.length = a.length := by
                      intro ps
                      induction ps with
                      | nil => intro a b h; have : a = b := by simpa [fillL] using h
                               rw [this]
                      | cons p ps ih =>
                        intro a b h
                        have h' : Option.rec (motive := fun _ => Option (List AV)) none (fun vs => Bool.rec (motive := fun _ => Option (List AV)) none (fillL F L ps (a.take p.1 ++ (vs ++ a.drop (p.1 + p.2.1)))) (Nat.beq (lenN vs) p.2.1 && Nat.ble (p.1 + p.2.1) (lenN a))) (cells? (ev F L p.2.2)) = some b := h
                        cases hcc : cells? (ev F L p.2.2) with
                        | none => rw [hcc] at h'; cases h'
                        | some vs =>
                          rw [hcc] at h'
                          have h3 : Bool.rec (motive := fun _ => Option (List AV)) none (fillL F L ps (a.take p.1 ++ (vs ++ a.drop (p.1 + p.2.1)))) (Nat.beq (lenN vs) p.2.1 && Nat.ble (p.1 + p.2.1) (lenN a)) = some b := h'
                          cases hbb : (Nat.beq (lenN vs) p.2.1 && Nat.ble (p.1 + p.2.1) (lenN a)) with
                          | false => rw [hbb] at h3; cases h3
                          | true =>
                            rw [hbb] at h3
                            rw [beq_nat, ble_nat, lenN_eq, lenN_eq] at hbb
                            simp only [Bool.and_eq_true, decide_eq_true_eq] at hbb
                            rw [ih _ _ h3]; simp; omega
                    have h3 := h2 _ _ _ hfl
                    have h4 := (repL_ok (c1s_ok ρ z.cells.toList) n).length
                    rw [repV_length] at h4
                    simp at h1 h4
                    rw [h1, h3, h4, hzsz]
                  refine made_sl (cs := cells') (e := e) (c := n) g2 (Nat.le_refl _) (Nat.le_refl _) (by omega) ?_
                  simp only [execOp]
                  refine exec_v ?_
                  unfold Instr.buildSlice
                  simp only [Sem.run_bind, run_underlying hu, Result.andThen_ok, sizeOf_ok hs w]
                  rw [if_neg (by omega)]
                  have hfill : Instr.fill (fun i => some (i * (sz + 1), sz + 1)) ((Array.range (n * (sz + 1))).map fun i => z.cells[i % z.cells.size]!) ((ps.map fun x => (x.1, a.eval x.2)).toList) = some cells' := by
                    rw [hzsz]; simpa using g1
                  by_cases hn : n * (sz + 1) = 0
                  · have hn0 : n = 0 := by
                      rcases Nat.eq_zero_or_pos n with h | h
                      · exact h
                      · exact absurd hn (Nat.ne_of_gt (Nat.mul_pos h (Nat.succ_pos sz)))
                    subst hn0
                    have hr0 : ∀ f : Nat → Value, (Array.range 0).map f = #[] := fun f => Array.eq_empty_of_size_eq_zero (by rw [Array.size_map, Array.size_range])
                    simp only [Nat.zero_mul, hr0] at hfill
                    simp only [Sem.run_bind, Sem.run_pure, Result.andThen_ok, Nat.zero_mul, if_true, hr0, hfill]
                    rfl
                  · simp only [Sem.run_bind, Sem.run_pure, Result.andThen_ok, hn, if_false, hzr, hfill]
                    rfl
  case load t x => exfalso; (repeat' split at hc) <;> cases hc
  case store t x y => exfalso; (repeat' split at hc) <;> cases hc
  case binOp bop t x y yt => exfalso; simp only [Bool.cond_eq_ite] at hc; (repeat' split at hc) <;> cases hc
  case convert s d x =>
    have h1 := hx x (by simp [Op.operands])
    have und : ∀ {t : Nat} {dd : TypeDesc}, P.underlying t = some dd → (underlying t).run P w = .ok dd w := fun h => run_underlying h w
    split at hc <;> try (cases hc; done)
    · rename_i e hs hd
      split at hc
      · rename_i he
        simp only [XOp.a.injEq] at hc; subst hc
        have hv : (match ev F L (co ds x) with | .str s => some (blkL (byteV s), Mk.sl (lenN s) (lenN s) 1) | _ => none) = some (B, mk) := hv
        generalize ev F L (co ds x) = cv at hv h1
        generalize hq : a.eval x = q at h1
        cases cv <;> simp only [reduceCtorEq, Option.some.injEq, Prod.mk.injEq] at hv
        rename_i l
        obtain ⟨rfl, rfl⟩ := hv
        cases h1
        rename_i bs hbs
        have hrun := run_bytes_of_string (P := P) w s d e bs hs hd he
        have hlen : lenN l = bs.size := by
          rw [lenN_eq, ← hbs, List.length_map, Array.length_toList]; rfl
        have hcap : bs.size ≤ grownCap w bs.size 0 e := Nat.le_add_right _ _
        have hsz : (bytesRow bs (grownCap w bs.size 0 e)).size = grownCap w bs.size 0 e := by
          simp only [bytesRow, Array.size_append, Array.size_map, Array.size_replicate]
          have : bs.data.size = bs.size := rfl
          omega
        refine ⟨.cells (bytesRow bs (grownCap w bs.size 0 e)) e ((bytesRow bs (grownCap w bs.size 0 e)).size, (bytesRow bs (grownCap w bs.size 0 e)).size + 1), .slice (some ⟨w.heap.size, 0, none⟩) bs.size (grownCap w bs.size 0 e), w.drew.alloc (.cells (bytesRow bs (grownCap w bs.size 0 e)) e ((bytesRow bs (grownCap w bs.size 0 e)).size, (bytesRow bs (grownCap w bs.size 0 e)).size + 1)), (bytesRow bs (grownCap w bs.size 0 e)).size, ?_, rfl, rfl, rfl, rfl, fun ρ' i _ hi => ?_, fun ρ' h' w'' hle => ?_⟩
        · simp only [execOp, hq]
          exact exec_v hrun
        · rw [hlen]
          exact .sl _ _ _ _ _ _ _ _ hi hcap (Nat.le_refl _) (by rw [Nat.mul_one, Nat.zero_add]; exact Nat.le_of_eq hsz.symm)
        · refine ⟨_, _, _, rfl, rfl, ?_, fun k v hk hv => ?_, fun _ k hk => by simp only; omega⟩
          · rw [lenN_eq, byteV_length, hsz, ← lenN_eq, hlen]; exact hcap
          · rw [lenN_eq, byteV_length] at hk
            rw [ofL_get _ k (by rw [byteV_length]; exact hk), byteV_get] at hv
            have hk' : k < bs.size := by rw [← hlen, lenN_eq]; exact hk
            have hb : l[k]? = some (bs.data[k]'hk').toNat := by
              rw [← hbs]; simp [hk']
            rw [hb] at hv
            simp only [Option.map_some, Option.some.injEq] at hv
            subst hv
            refine ⟨.int .u8 (bs.data[k]'hk').toNat, ?_, .int _ _⟩
            simp only [bytesRow]
            rw [Array.getElem?_append_left (by simpa using hk')]
            simp [hk']
      · cases hc
    · split at hc <;> cases hc
  case makeInterface t x => exfalso; split at hc <;> cases hc
  case makeFunc fn xs ys => exfalso; cases fn <;> simp only [reduceCtorEq] at hc <;> split at hc <;> cases hc
  case makeMap t r =>
    have fin : (execOp a.eval ⟨dst, .makeMap t r, type, pos, after, guard⟩).run P w = .ok (.value (.map (some w.heap.size))) { w with heap := w.heap.push (.map #[] 0) } → Made P ρ a w ⟨dst, .makeMap t r, type, pos, after, guard⟩ (.map [] 0) .map := fun h =>
      ⟨.map #[] 0, _, _, 0, h, rfl, rfl, rfl, rfl, fun ρ' i _ hi => .map _ _ _ hi, fun ρ' h' w'' _ => ⟨#[], 0, rfl, MR.p .nil, by simp, .nil⟩⟩
    cases r with
    | none =>
      simp only [XOp.a.injEq] at hc; subst hc
      have hv : some (Blk.map [] 0, Mk.map) = some (B, mk) := hv
      simp only [Option.some.injEq, Prod.mk.injEq] at hv
      obtain ⟨rfl, rfl⟩ := hv
      exact fin rfl
    | some r =>
      have h1 := hx r (by simp [Op.operands])
      simp only at hc
      split at hc
      · rename_i kt e hu
        simp only [XOp.a.injEq] at hc; subst hc
        have hv : (match ev F L (co ds r) with | .int _ _ => some (Blk.map [] 0, Mk.map) | _ => none) = some (B, mk) := hv
        generalize ev F L (co ds r) = cv at hv h1
        generalize hq : a.eval r = q at h1
        cases cv <;> simp only [reduceCtorEq, Option.some.injEq, Prod.mk.injEq] at hv
        obtain ⟨rfl, rfl⟩ := hv
        cases h1
        refine fin ?_
        simp only [execOp, Option.map_some, hq]
        refine exec_v ?_
        unfold Instr.makeMap
        simp only [Sem.run_bind, run_underlying hu, Result.andThen_ok, asInt, asIntOf, Sem.run_pure]
        rfl
      · cases hc
  case makeSlice t l c =>
    have h1 := hx l (by simp [Op.operands])
    have h2 := hx c (by simp [Op.operands])
    cases hu : P.underlying t with
    | none => rw [hu] at hc; cases hc
    | some d =>
      rw [hu] at hc
      cases d <;> simp only [reduceCtorEq] at hc
      rename_i e
      cases hs : szT P e with
      | none => rw [hs] at hc; cases hc
      | some sz =>
        rw [hs] at hc
        cases sz with
        | zero => cases hc
        | succ sz =>
          simp only at hc
          cases hz : zeroC P e with
          | none => rw [hz] at hc; cases hc
          | some zs =>
            rw [hz] at hc; simp only at hc
            cases hb : (Nat.beq zs.length (sz + 1) && Nat.ble (P.bytesOf e) 1048576) with
            | false => rw [hb] at hc; cases hc
            | true =>
              rw [hb] at hc; simp only [cond_true, XOp.a.injEq] at hc; subst hc
              rw [ble_nat, beq_nat] at hb
              simp only [Bool.and_eq_true, decide_eq_true_eq] at hb
              have hv : (match nat? (ev F L (co ds l)), nat? (ev F L (co ds c)) with
                | some n, some m => bif Nat.ble n m && Nat.ble m 1000000 then some (blkL (repL zs m), Mk.sl n m (sz + 1)) else none
                | _, _ => none) = some (B, mk) := hv
              cases hn : nat? (ev F L (co ds l)) with
              | none => rw [hn] at hv; cases hv
              | some n =>
                cases hm : nat? (ev F L (co ds c)) with
                | none => rw [hn, hm] at hv; cases hv
                | some m =>
                  rw [hn, hm] at hv; simp only at hv
                  rw [ble_nat, ble_nat] at hv
                  by_cases hq : n ≤ m ∧ m ≤ 1000000
                  · obtain ⟨hq1, hq2⟩ := hq
                    simp only [hq1, hq2, decide_true, Bool.and_self, cond_true, Option.some.injEq, Prod.mk.injEq] at hv
                    obtain ⟨rfl, rfl⟩ := hv
                    obtain ⟨k, hk⟩ := nat?_ok h1 hn
                    obtain ⟨k', hk'⟩ := nat?_ok h2 hm
                    obtain ⟨z, hzr, rfl⟩ := zero_cells hz
                    have hzsz : z.cells.size = sz + 1 := by simpa using hb.1
                    have hrng := range_rep z.cells m (by omega)
                    rw [hzsz] at hrng
                    obtain ⟨i, hi, hisz⟩ := szT_info hs
                    have hby : i.bytes ≤ 1048576 := by
                      have := hb.2
                      unfold Program.bytesOf at this
                      rw [hi] at this
                      simpa using this
                    refine made_sl (cs := (Array.range (m * (sz + 1))).map fun i => z.cells[i % (sz + 1)]!) (e := e) (c := m) (by rw [hrng]; exact repL_ok (c1s_ok ρ _) m) hq1 (Nat.le_refl _) (by simp) ?_
                    simp only [execOp, hk, hk']
                    refine exec_v ?_
                    unfold Instr.makeSlice
                    have hti : (typeInfo e).run P w = .ok i w := by simp [typeInfo, hi]
                    have w1 : IntKind.i64.wrap (n : Int) = n := wrap_i64 (by omega)
                    have w2 : IntKind.i64.wrap (m : Int) = m := wrap_i64 (by omega)
                    have hmul : i.bytes * m ≤ 1048576 * 1000000 := Nat.mul_le_mul hby hq2
                    have t1 : (decide ((m : Int) < 0) || decide ((i.bytes : Int) * (m : Int) > 2 ^ 48)) = false := by
                      rw [Bool.or_eq_false_iff]
                      refine ⟨by simp, ?_⟩
                      have : (i.bytes : Int) * (m : Int) = ((i.bytes * m : Nat) : Int) := by simp
                      rw [this]
                      simp only [gt_iff_lt, decide_eq_false_iff_not, Int.not_lt]
                      omega
                    simp only [asInt, asIntOf, Sem.run_bind, Sem.run_pure, run_underlying hu, Result.andThen_ok, hti, w1, w2, t1, Bool.false_or]
                    have t2 : (decide ((n : Int) < 0) || decide ((n : Int) > (m : Int))) = false := by
                      rw [Bool.or_eq_false_iff]; exact ⟨by simp, by simpa using hq1⟩
                    rw [if_neg (by rw [t2]; simp)]
                    simp only [Sem.run_bind, run_askRoom, Result.andThen_ok, sizeOf_ok hs w, Int.toNat_natCast]
                    by_cases hm0 : m * (sz + 1) = 0
                    · have hr0 : ∀ f : Nat → Value, (Array.range 0).map f = #[] := fun f => Array.eq_empty_of_size_eq_zero (by rw [Array.size_map, Array.size_range])
                      simp only [hm0, if_true, Sem.run_bind, Sem.run_pure, Result.andThen_ok, hr0]; rfl
                    · simp only [hm0, if_false, Sem.run_bind, hzr, Sem.run_pure, Result.andThen_ok, hzsz]; rfl
                  · have : (decide (n ≤ m) && decide (m ≤ 1000000)) = false := by
                      rw [Bool.and_eq_false_iff]
                      by_cases h : n ≤ m
                      · exact .inr (by simpa using fun e => hq ⟨h, e⟩)
                      · exact .inl (by simpa using h)
                    rw [this] at hv; cases hv
  case slice t x lo hi mx => exfalso; (repeat' split at hc) <;> cases hc
  case fieldAddr t x f => exfalso; (repeat' split at hc) <;> cases hc
  case field t x f => exfalso; (repeat' split at hc) <;> cases hc
  case indexAddr t x ix => exfalso; (repeat' split at hc) <;> cases hc
  case index t x ix => exfalso; (repeat' split at hc) <;> cases hc
  case lookup t x ix ok => exfalso; (repeat' split at hc) <;> cases hc
  case mapUpdate t x y z => exfalso; (repeat' split at hc) <;> cases hc
  case insert t x y z => exfalso; (repeat' split at hc) <;> cases hc
  case range t x => exfalso; (repeat' split at hc) <;> cases hc
  case call c =>
    exfalso
    obtain ⟨callee, args, argTypes⟩ := c
    cases callee with
    | value f => cases f <;> simp only [reduceCtorEq] at hc
    | invoke r m => simp only [reduceCtorEq] at hc
    | builtin b =>
      simp only at hc
      unfold compBuiltin at hc
      (try simp only [Bool.cond_eq_ite] at hc); (repeat' split at hc) <;> cases hc
end
end Hx
