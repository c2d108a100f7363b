/- The evaluator: a loop that copies a map whose keys are numbers. -/
import Derived.Test.YtopkkjgjohgogaaGreatDoorHxYd
namespace Hx
open Go

noncomputable section
def hasKey (p : Int) (l : List (AV × AV)) : Bool := List.rec (motive := fun _ => Bool) false (fun x _ ih => (match x.1 with | .int _ q => eqI p q | _ => true) || ih) l
def okKB (l : List (AV × AV)) : Bool := List.rec (motive := fun _ => Bool) true (fun x l ih => (match x.1 with | .int .i64 p => !(hasKey p l) | _ => false) && ih) l
def aggOk (sz : Nat) (v : AV) : Bool := match v with
  | .agg l => Nat.beq (lenN l) sz && scals l
  | _ => false
def disj (ts ws : List Nat) : Bool := List.rec (motive := fun _ => Bool) true (fun t _ ih => !(hasN ts t) && ih) ws
/-- slots: it: the iterator; tm: the new map; ts: what stays; ws: what is written -/
def anyC (it tm sz : Nat) (ts ws : List Nat) (dflt : Fr → Hp → XR) : Fr → Hp → XR := fun F h => match F.get it, F.get tm with
  | some (.ptr i 0), some (.map m) => match h.t.get i with
    | some (.miter (some (r, n)) left none) => match h.t.get r, h.t.get m with
      | some (.map es n'), some (.map [] v0) => bif Nat.ble (lenN es) 1 then dflt F h else
          bif Nat.beq n n' && hasN ts it && hasN ts tm && disj ts ws && !(Nat.beq r m) && okKB left && allE (fun x => aggOk sz x.2) left then
            .norm (frL ts F) ⟨(h.t.set i .gone).set m (.map left (Nat.succ (Nat.add v0 (lenN left)))), Nat.add h.next (lenN left)⟩ else .bad [6777777]
      | _, _ => .bad [6777776]
    | _ => .bad [6777775]
  | _, _ => .bad [6777774]
end

section
variable {P : Program}

theorem hasKey_ok {p : Int} : ∀ {l : List (AV × AV)}, hasKey p l = false → AV.int .i64 p ∉ l.map (·.1)
  | [], _ => by simp
  | x :: l, h => by
    have h : ((match x.1 with | .int _ q => eqI p q | _ => true) || hasKey p l) = false := h
    rw [Bool.or_eq_false_iff] at h
    have ih := hasKey_ok h.2
    rw [List.map_cons, List.mem_cons]
    rintro (q | q)
    · have h1 := h.1
      rw [← q] at h1
      simp only at h1
      rw [eqI_eq] at h1
      simp at h1
    · exact ih q
theorem okKB_ok : ∀ {l : List (AV × AV)}, okKB l = true → okK l
  | [], _ => ⟨by simp, by simp⟩
  | x :: l, h => by
    have h : ((match x.1 with | .int .i64 p => !(hasKey p l) | _ => false) && okKB l) = true := h
    rw [Bool.and_eq_true] at h
    obtain ⟨i1, i2⟩ := okKB_ok h.2
    have h1 := h.1
    split at h1
    · rename_i p hp
      have := hasKey_ok (by simpa using h1)
      refine ⟨fun e he => ?_, ?_⟩
      · rcases List.mem_cons.1 he with rfl | he
        · exact ⟨p, hp⟩
        · exact i1 e he
      · rw [List.map_cons, List.nodup_cons, hp]
        exact ⟨this, i2⟩
    · cases h1

/-- a map's entries in another order -/
theorem Ext.perm {ρ ρ' : Ren} {h h' k : Hp} {w w' : World} {m : Nat} {es es2 : List (AV × AV)} {ver ver2 : Nat} (e : Ext ρ ρ' h h' w w') (hn : k.next = h'.next) (hj : ∀ j, j ≠ m → k.t.get j = h'.t.get j) (hm : h'.t.get m = some (.map es ver)) (hk : k.t.get m = some (.map es2 ver2)) (hv : ver < ver2) (hp : es.Perm es2) (ho : okK es2) : Ext ρ ρ' h k w w' where
  wr :=
    { bd := e.wr.bd
      inj := e.wr.inj
      blk := fun j c n q hq hkq => by
        by_cases hji : j = m
        · subst hji
          rw [hk] at hkq
          simp only [Option.some.injEq] at hkq; subst hkq
          obtain ⟨o, g1, ces, clock, g2, ⟨es', g3, g4⟩, g5, g6⟩ := e.wr.blk j c n _ hq hm
          refine ⟨o, g1, ces, clock, g2, ⟨es', g3, .inr ⟨?_, ho⟩⟩, g5, g6⟩
          rcases g4 with rfl | ⟨g4, _⟩
          · exact hp
          · exact g4.trans hp
        · rw [hj j hji] at hkq
          obtain ⟨o, g1, g2⟩ := e.wr.blk j c n q hq hkq
          refine ⟨o, g1, g2.keep (Ren.le_refl _) fun r d m' es' ver' hr hes => ⟨hr, ?_⟩⟩
          by_cases hri : r = m
          · subst hri
            rw [hm] at hes
            simp only [Option.some.injEq, Blk.map.injEq] at hes
            obtain ⟨rfl, rfl⟩ := hes
            exact .inr ⟨_, _, hk, hv⟩
          · exact .inl ⟨by rw [hj r hri]; exact hes, Eq.refl _⟩
      dead := fun j q hq hkq => by
        by_cases hji : j = m
        · subst hji
          have := e.wr.dead j _ hq hm
          cases this
        · rw [hj j hji] at hkq
          exact e.wr.dead j q hq hkq
      fresh := fun j hq => by
        rw [hn] at hq
        have hji : j ≠ m := fun x => by rw [x] at hq; rw [e.wr.fresh m hq] at hm; cases hm
        rw [hj j hji]
        exact e.wr.fresh j hq
      all := fun j q hkq => by
        by_cases hji : j = m
        · rw [hji]; exact e.wr.all m _ hm
        · rw [hj j hji] at hkq
          exact e.wr.all j q hkq }
  lim := fun j hq => e.lim j (by rw [← hn]; exact hq)
  le := e.le
  hn := by rw [hn]; exact e.hn
  hs := e.hs
  nw := e.nw
  fr := e.fr
  ow := fun j hjl ho => e.ow j hjl (by
    by_cases hji : j = m
    · subst hji; exact ⟨_, hm, fun _ _ e => (by cases e), fun _ e => (by cases e)⟩
    · obtain ⟨q, g1, g2⟩ := ho
      rw [hj j hji] at g1
      exact ⟨q, g1, g2⟩)
  kp := e.kp
  io := e.io

theorem opX_a (call : CallT) (o : AOp) (F : Fr) (L : List AV) (h : Hp) (k : KT) {b : Blk} {m : Mk} (hv : aopX o F L = some (b, m)) : opX P call (.a o) F L h k = k (m.val h.next) (h.new b) := by
  show Option.rec (motive := fun _ => OR) (.bad []) (fun p => Prod.rec (motive := fun _ => OR) (fun b m => k (m.val h.next) (h.new b)) p) (aopX o F L) = _
  rw [hv]
theorem opX_e (call : CallT) (o : EOp) (F : Fr) (L : List AV) (h : Hp) (k : KT) {v : AV} {h' : Hp} (hv : eopX o F L h = .ok v h') : opX P call (.e o) F L h k = k v h' := by
  show Res.rec (motive := fun _ => OR) (fun v h => k v h) (fun w => .bad w) (eopX o F L h) = _
  rw [hv]

theorem regionX_text {nt outs : Nat} {call : CallT} {ops : List Oper} {id : Nat} {F : Fr} {h : Hp} {xs : List XOper} {ds : List (Option Nat)} {L : List AV} {h' : Hp} (hx : compOps P nt ops ops [] = xs) (hd : ops.reverse.map (·.dst) = ds) (hr : opsX P call xs F [] h = .ok L h') :
    regionX P nt outs call ops false id F h = .norm (keepF L (keepL outs ds 0) F) h' := by
  show OR.rec (motive := fun _ => XR) (fun L h => .norm (keepF L (keepL outs (ops.reverse.map (·.dst)) 0) F) h) (fun w => .bad (id :: w)) (opsX P call (compOps P nt ops ops []) F [] h) = _
  rw [hx, hr, hd]

/-- the two pieces of a round: what they are, compiled -/
structure CopyShape (P : Program) (nt outs : Nat) (c : Code) (it tm te tk tv tt tq x1 x2 x3 sz : Nat) (zs : List AV) : Prop where
  ex : ∃ id1 id2 ops1 ops2, c = .seq (.region id1 ops1 false) (.region id2 ops2 false) ∧
    compOps P nt ops1.toList ops1.toList [] = [⟨.l (.ent (.f it)), none⟩, ⟨.p (.ext 0 (.l 0)), none⟩, ⟨.p (.ext 1 (.l 1)), none⟩, ⟨.a (.alc zs), none⟩, ⟨.p (.mov (.l 2)), none⟩, ⟨.e (.st sz (.l 1) (.l 2)), none⟩] ∧
    ops1.toList.reverse.map (·.dst) = [none, some tq, some tt, some tv, some tk, some te] ∧
    compOps P nt ops2.toList ops2.toList [] = [⟨.p (.mov (.f tm)), none⟩, ⟨.p (.mov (.f tq)), none⟩, ⟨.l (.ldn sz (.f tt)), none⟩, ⟨.e (.mup (.sc .i) (.l 2) (.l 1) (.l 0)), none⟩] ∧
    ops2.toList.reverse.map (·.dst) = [none, some x3, some x2, some x1]
  zl : zs.length = sz
  o1 : Nat.testBit outs tq = true
  o2 : Nat.testBit outs tt = true
  ne : tq ≠ tt ∧ tm ≠ tq ∧ tm ≠ tt ∧ tm ≠ tv ∧ tm ≠ tk ∧ tm ≠ te ∧ tq ≠ tv ∧ tq ≠ tk ∧ tq ≠ te ∧ tt ≠ tq

theorem getCells_set {t : Tr AV} : ∀ (n off : Nat) (l : List AV), l.length = n → (∀ j, j < n → t.get (off + j) = l[j]?) → getCells t n off = some l
  | 0, off, l, hl, _ => by rw [List.eq_nil_of_length_eq_zero hl]; rfl
  | n + 1, off, [], hl, _ => by simp at hl
  | n + 1, off, x :: l, hl, h => by
    rw [getCells_succ]
    have h0 := h 0 (by omega)
    rw [Nat.add_zero] at h0
    rw [h0]
    simp only [List.getElem?_cons_zero]
    rw [getCells_set n (off + 1) l (by simpa using hl) fun j hj => by
      have := h (j + 1) (by omega)
      rw [show off + 1 + j = off + (j + 1) by omega, this]
      simp]

theorem findK_fresh {p : Int} {es : List (AV × AV)} (ho : okK es) (h : AV.int .i64 p ∉ es.map (·.1)) : findK (.sc .i) (.int .i64 p) es = some none :=
  findK_not ho fun _v hv => h (List.mem_map.2 ⟨_, hv, rfl⟩)
theorem putK_fresh {p : Int} {v : AV} {es : List (AV × AV)} (ho : okK es) (h : AV.int .i64 p ∉ es.map (·.1)) : putK (.sc .i) (.int .i64 p) v es = es ++ [(.int .i64 p, v)] := by
  refine putK_new fun e he => ?_
  obtain ⟨n, hn⟩ := ho.1 e he
  rw [hn, keyEq_ii, eqI_eq]
  have : p ≠ n := fun q => h (List.mem_map.2 ⟨e, he, by rw [hn, q]⟩)
  simpa using this

theorem copy_round {nt outs fuel it tm te tk tv tt tq x1 x2 x3 sz i r n m ver : Nat} {zs : List AV} {call : CallT} {c : Code} {F : Fr} {h : Hp} {left es done : List (AV × AV)} {p : Int} {l : List AV} (hc : CopyShape P nt outs c it tm te tk tv tt tq x1 x2 x3 sz zs)
    (hF : F.get it = some (.ptr i 0)) (hFm : F.get tm = some (.map m)) (hi : h.t.get i = some (.miter (some (r, n)) left (some (.int .i64 p, .agg l)))) (hr : h.t.get r = some (.map es n)) (hm : h.t.get m = some (.map done ver)) (hfresh : h.t.get h.next = none)
    (hl : lenN l = sz) (hsc : scals l = true) (ho : okK done) (hnew : AV.int .i64 p ∉ done.map (·.1)) :
    ∃ F2 h2, codeX P nt outs call fuel c F h = .norm F2 h2 ∧ (∀ t, t ∉ [te, tk, tv, tt, tq, x1, x2, x3] → F2.get t = F.get t) ∧
      h2.next = h.next + 1 ∧ h2.t.get m = some (.map (done ++ [(.int .i64 p, .agg l)]) (ver + 1)) ∧ (∃ t, h2.t.get h.next = some (.cells t sz true)) ∧ ∀ j, j ≠ m → j ≠ h.next → h2.t.get j = h.t.get j := by
  obtain ⟨⟨id1, id2, ops1, ops2, rfl, c1, d1, c2, d2⟩, hzl, o1, o2, ne1, ne2, ne3, ne4, ne5, ne6, ne7, ne8, ne9, ne10⟩ := hc
  have hmn : m ≠ h.next := fun e => by rw [e, hfresh] at hm; cases hm
  have hent : lopX (.ent (.f it)) F [] h = some (.tup [.int .i64 p, .agg l]) := by
    show entV (ev F [] (.f it)) h = _
    rw [ev_f, hF]
    unfold entV
    simp only [hi, hr]
    have : Nat.beq n n = true := by simp
    simp only [this, cond_true]
  rw [codeX_seq, codeX_region]
  generalize hA : h.new (blkL zs) = hA1
  have a1 : hA1.t.get h.next = some (blkL zs) := by rw [← hA]; exact new_get_same _ _
  have a2 : ∀ j, j ≠ h.next → hA1.t.get j = h.t.get j := fun j hj => by rw [← hA]; exact new_get_ne h _ hj
  have a3 : hA1.next = h.next + 1 := by rw [← hA]; rfl
  generalize hB : hA1.put h.next (.cells (setCells l (ofL zs) 0) (lenN zs) true) = hB1
  have b1 : hB1.t.get h.next = some (.cells (setCells l (ofL zs) 0) (lenN zs) true) := by rw [← hB]; exact put_get_same _ _ _
  have b2 : ∀ j, j ≠ h.next → hB1.t.get j = h.t.get j := fun j hj => by rw [← hB, put_get_ne _ _ hj, a2 j hj]
  have b3 : hB1.next = h.next + 1 := by rw [← hB]; exact a3
  have hst : eopX (.st sz (.l 1) (.l 2)) F [.int .i64 p, .ptr h.next 0, .agg l, .int .i64 p, .tup [.int .i64 p, .agg l]] hA1 = .ok (.tup []) hB1 := by
    show stV sz (.ptr h.next 0) (.agg l) hA1 = _
    unfold stV
    simp only [a1, blkL, cells?]
    have e1 : Nat.beq (lenN l) sz = true := by rw [beq_nat]; simp [hl]
    have e2 : Nat.ble (Nat.add 0 sz) (lenN zs) = true := by rw [ble_nat, lenN_eq]; simp [hzl]
    rw [e1, e2, hsc]
    simp only [Bool.and_self, cond_true]
    rw [hB]
  have r1 : regionX P nt outs call ops1.toList false id1 F h = .norm (keepF [.tup [], .int .i64 p, .ptr h.next 0, .agg l, .int .i64 p, .tup [.int .i64 p, .agg l]] (keepL outs [none, some tq, some tt, some tv, some tk, some te] 0) F) hB1 := by
    refine regionX_text c1 d1 ?_
    rw [opsX_one, opX_l call (.ent (.f it)) F [] h _ (v := .tup [.int .i64 p, .agg l]) hent, opsX_one, opX_p call (.ext 0 (.l 0)) F _ h _ (v := .int .i64 p) rfl, opsX_one, opX_p call (.ext 1 (.l 1)) F _ h _ (v := .agg l) rfl,
      opsX_one, opX_a call (.alc zs) F _ h _ (b := blkL zs) (m := .ptr) rfl, hA]
    show opsX P call _ F [.ptr h.next 0, .agg l, .int .i64 p, .tup [.int .i64 p, .agg l]] hA1 = _
    rw [opsX_one, opX_p call (.mov (.l 2)) F _ hA1 _ (v := .int .i64 p) rfl, opsX_one, opX_e call (.st sz (.l 1) (.l 2)) F _ hA1 _ hst]
    rfl
  rw [r1]
  simp only
  generalize hF1 : keepF [.tup [], .int .i64 p, .ptr h.next 0, .agg l, .int .i64 p, .tup [.int .i64 p, .agg l]] (keepL outs [none, some tq, some tt, some tv, some tk, some te] 0) F = F1
  have f1 : ∀ t, F1.get t = (match findD [none, some tq, some tt, some tv, some tk, some te] t with | some k => if Nat.testBit outs t then some (nth [.tup [], .int .i64 p, .ptr h.next 0, .agg l, .int .i64 p, .tup [.int .i64 p, .agg l]] (0 + k)) else F.get t | none => F.get t) := fun t => by rw [← hF1]; exact keep_get _ _ _ _ _ _
  have ftq : F1.get tq = some (.int .i64 p) := by
    rw [f1, findD_none, findD_some, if_pos rfl]
    simp only [Option.map_some, o1, if_true]
    rfl
  have ftt : F1.get tt = some (.ptr h.next 0) := by
    rw [f1, findD_none, findD_some, if_neg ne1, findD_some, if_pos rfl]
    simp only [Option.map_some, o2, if_true]
    rfl
  have ftm : F1.get tm = some (.map m) := by
    rw [f1, findD_none, findD_some, if_neg (Ne.symm ne2), findD_some, if_neg (Ne.symm ne3), findD_some, if_neg (Ne.symm ne4), findD_some, if_neg (Ne.symm ne5), findD_some, if_neg (Ne.symm ne6), findD_nil]
    exact hFm
  rw [codeX_region]
  have hld : lopX (.ldn sz (.f tt)) F1 [.int .i64 p, .map m] hB1 = some (.agg l) := by
    show ldnV sz (ev F1 _ (.f tt)) hB1 = _
    rw [ev_f, ftt]
    unfold ldnV cellsAt
    simp only [b1]
    have e2 : Nat.ble (Nat.add 0 sz) (lenN zs) = true := by rw [ble_nat, lenN_eq]; simp [hzl]
    rw [e2, cond_true, getCells_set sz 0 l (by rw [← lenN_eq]; exact hl) fun j hj => by
      rw [setCells_get, if_pos ⟨by omega, by rw [← lenN_eq, hl]; omega⟩]
      rw [show 0 + j - 0 = j by omega]]
  generalize hC : hB1.put m (.map (done ++ [(.int .i64 p, .agg l)]) (ver + 1)) = hC1
  have hmu : eopX (.mup (.sc .i) (.l 2) (.l 1) (.l 0)) F1 [.agg l, .int .i64 p, .map m] hB1 = .ok (.tup []) hC1 := by
    show mupV (.sc .i) (.map m) (.int .i64 p) (.agg l) hB1 = _
    unfold mupV
    simp only [b2 m hmn, hm, findK_fresh ho hnew]
    have e1 : keyOk (.sc .i) (.int .i64 p) = true := by
      unfold keyOk
      rw [keyEq_ii, eqI_eq]
      simp
    rw [e1]
    show (bif true && true then _ else _) = _
    simp only [Bool.and_self, cond_true]
    rw [putK_fresh ho hnew]
    show Res.ok (.tup []) (hB1.put m (.map _ (ver + 1))) = _
    rw [hC]
  have r2 : regionX P nt outs call ops2.toList false id2 F1 hB1 = .norm (keepF [.tup [], .agg l, .int .i64 p, .map m] (keepL outs [none, some x3, some x2, some x1] 0) F1) hC1 := by
    refine regionX_text c2 d2 ?_
    rw [opsX_one, opX_p call (.mov (.f tm)) F1 [] hB1 _ (v := .map m) (by show some (ev F1 [] (.f tm)) = _; rw [ev_f, ftm]), opsX_one, opX_p call (.mov (.f tq)) F1 _ hB1 _ (v := .int .i64 p) (by show some (ev F1 _ (.f tq)) = _; rw [ev_f, ftq]),
      opsX_one, opX_l call (.ldn sz (.f tt)) F1 _ hB1 _ hld, opsX_one, opX_e call (.mup (.sc .i) (.l 2) (.l 1) (.l 0)) F1 _ hB1 _ hmu]
    rfl
  rw [r2]
  refine ⟨_, hC1, rfl, fun t ht => ?_, ?_, ?_, ⟨setCells l (ofL zs) 0, ?_⟩, fun j hj hjn => ?_⟩
  · simp only [List.mem_cons, List.not_mem_nil, or_false, not_or] at ht
    obtain ⟨m1, m2, m3, m4, m5, m6, m7, m8⟩ := ht
    rw [keep_get, findD_none, findD_some, if_neg (Ne.symm m8), findD_some, if_neg (Ne.symm m7), findD_some, if_neg (Ne.symm m6), findD_nil]
    simp only [Option.map_none]
    rw [f1, findD_none, findD_some, if_neg (Ne.symm m5), findD_some, if_neg (Ne.symm m4), findD_some, if_neg (Ne.symm m3), findD_some, if_neg (Ne.symm m2), findD_some, if_neg (Ne.symm m1), findD_nil]
    rfl
  · rw [← hC]; exact b3
  · rw [← hC]; exact put_get_same _ _ _
  · rw [← hC, put_get_ne _ _ (Ne.symm hmn), b1, lenN_eq, hzl]
  · rw [← hC, put_get_ne _ _ hj, b2 j hjn]

theorem disj_ok {ts : List Nat} : ∀ {ws : List Nat}, disj ts ws = true → ∀ t ∈ ws, t ∉ ts
  | [], _, t, ht => by cases ht
  | s :: ws, h, t, ht => by
    have h : (!(hasN ts s) && disj ts ws) = true := h
    rw [Bool.and_eq_true, Bool.not_eq_true'] at h
    rcases List.mem_cons.1 ht with rfl | ht
    · intro q
      rw [(hasN_iff ts t).2 q] at h
      cases h.1
    · exact disj_ok h.2 t ht

theorem anyC_ok {nt outs fuel it tm te tk tv tt tq x1 x2 x3 tn tc id id1 sz : Nat} {ts ws : List Nat} {zs : List AV} {call : CallT} {c B : Code} {dflt : Fr → Hp → XR} (hmx : P.follows .mixedOrders = true) (hng : NoNG P) (hcall : CallOk P call)
    (hshape : RangeShape c it tn tc id (.block id1 B)) (hcp : CopyShape P nt outs B it tm te tk tv tt tq x1 x2 x3 sz zs) (hn : tn < nt) (hn' : tc < nt) (hne : tn ≠ tc) (hws : ∀ t ∈ [te, tk, tv, tt, tq, x1, x2, x3, tn, tc], t ∈ ws)
    (hd : CodeOk P nt outs (.block id (.loop c)) dflt) : CodeOk P nt outs (.block id (.loop c)) (anyC it tm sz ts ws dflt) := by
  intro F h a w ρ hgood hw hl hg hf hm
  unfold anyC at hgood ⊢
  split at hgood
  · rename_i i m hit htm
    split at hgood
    · rename_i r n left hi
      split at hgood
      · rename_i es n' v0 hr hmm
        cases hle : Nat.ble (lenN es) 1 with
        | true =>
          rw [hle] at hgood
          simp only [cond_true] at hgood ⊢
          exact hd F h a w ρ hgood hw hl hg hf hm
        | false =>
          rw [hle] at hgood
          simp only [cond_false] at hgood ⊢
          cases hb : (Nat.beq n n' && hasN ts it && hasN ts tm && disj ts ws && !(Nat.beq r m) && okKB left && allE (fun x => aggOk sz x.2) left) with
          | false => rw [hb] at hgood; exact absurd rfl (hgood _)
          | true =>
            simp only [cond_true]
            simp only [Bool.and_eq_true, Bool.not_eq_true'] at hb
            obtain ⟨⟨⟨⟨⟨⟨b1, b2⟩, b3⟩, b4⟩, b5⟩, b6⟩, b7⟩ := hb
            have hnn := beqN_true b1
            subst hnn
            rw [hasN_iff] at b2 b3
            have hrm : r ≠ m := fun e => by rw [beq_nat, e] at b5; simp at b5
            have hok := okKB_ok b6
            have h2' : 2 ≤ es.length := by
              rw [ble_nat, lenN_eq] at hle
              simp at hle; omega
            have hri : r ≠ i := fun e => by rw [e, hi] at hr; cases hr
            have him : m ≠ i := fun e => by rw [e, hi] at hmm; cases hmm
            generalize hFc : frL ts F = Fc
            have hFcget : ∀ t, Fc.get t = if t ∈ ts then F.get t else none := fun t => by rw [← hFc, frL_get]
            have hfc : FR ρ Fc [] [] a := by rw [← hFc]; exact hf.frL ts
            have hmc : Fm nt outs Fc a := by rw [← hFc]; exact hm.frL ts
            let J : List (AV × AV) → Fr → Hp → Prop := fun l F' h' => F' = Fc ∧ ∃ done cur, (done ++ l).Perm left ∧ h'.next = h.next + done.length ∧ h'.t.get i = some (.miter (some (r, n)) l cur) ∧ h'.t.get m = some (.map done (v0 + done.length)) ∧ ∀ j, j ≠ i → j ≠ m → h'.t.get j = h.t.get j
            have hBody : CodeOk P nt outs (.block id1 B) (codeX P nt outs call fuel (.block id1 B)) := code_ok hmx hcall hng _
            refine wp_block (wp_loop_rounds _ (rounds_mono ?_ _ _ _ (loop_any (outs := outs) (i := i) (r := r) (n := n) (es := es) hshape hn hn' hne h2' J ?_ ?_ left.length left Fc h a w ρ rfl ⟨rfl, [], none, List.Perm.refl _, rfl, hi, hmm, fun _ _ _ => rfl⟩ hw hl hg hfc hmc)))
            · rintro e a' w' ⟨rfl, F', h', ρ', ⟨rfl, done, cur, j1, j2, j3, j4, j5⟩, hE, hf', hm'⟩
              show (if id = id then Done nt outs _ ρ h w .normal a' w' else _)
              rw [if_pos rfl]
              rw [List.append_nil] at j1
              have hlen : h'.next = h.next + lenN left := by rw [j2, lenN_eq, j1.length_eq]
              have hE1 := hE.gone (k := h'.put i .gone) (i := i) (b := .miter (some (r, n)) [] cur) rfl (fun j hji => put_get_ne _ _ hji) (.inl (put_get_same _ _ _)) j3 (fun _ _ e => (by cases e)) (fun _ e => (by cases e)) (fun _ _ e => (by cases e))
              refine ⟨_, _, .inl ⟨rfl, rfl⟩, ρ', hE1.perm (m := m) (es := done) (es2 := left) (ver := v0 + done.length) ?_ (fun j hj => ?_) ?_ (Tr.get_set_same _ _ _) ?_ j1 hok, hf', hm'⟩
              · show h.next + lenN left = h'.next
                exact hlen.symm
              · show ((h.t.set i .gone).set m _).get j = (h'.t.set i .gone).get j
                rw [Tr.get_set_ne _ _ hj]
                by_cases hji : j = i
                · subst hji; rw [Tr.get_set_same, Tr.get_set_same]
                · rw [Tr.get_set_ne _ _ hji, Tr.get_set_ne _ _ hji, j5 j hji hj]
              · rw [put_get_ne _ _ him]; exact j4
              · show v0 + done.length < v0 + lenN left + 1
                rw [lenN_eq, j1.length_eq]; omega
            · rintro l F' h' ⟨rfl, done, cur, j1, j2, j3, j4, j5⟩
              refine ⟨by rw [hFcget, if_pos b2]; exact hit, ?_, ?_, ⟨cur, j3⟩, by rw [j5 r hri hrm]; exact hr⟩
              · rw [hFcget, if_neg (disj_ok b4 tn (hws tn (by simp)))]
              · rw [hFcget, if_neg (disj_ok b4 tc (hws tc (by simp)))]
            · rintro l ⟨k, v⟩ l' F' h' ⟨rfl, done, cur, j1, j2, j3, j4, j5⟩ hp a' w' ρ' hw' hl' hg' hf' hm'
              generalize hh1 : h'.put i (.miter (some (r, n)) l' (some (k, v))) = hx at hw' hl' hg' ⊢
              have g1 : hx.t.get i = some (.miter (some (r, n)) l' (some (k, v))) := by rw [← hh1]; exact put_get_same _ _ _
              have g2 : ∀ j, j ≠ i → j ≠ m → hx.t.get j = h.t.get j := fun j hj hjm => by rw [← hh1, put_get_ne _ _ hj, j5 j hj hjm]
              have g3 : hx.next = h.next + done.length := by rw [← hh1]; exact j2
              have g4 : hx.t.get m = some (.map done (v0 + done.length)) := by rw [← hh1, put_get_ne _ _ him]; exact j4
              have hp2 : (done ++ (k, v) :: l').Perm left := ((hp.append_left done).symm).trans j1
              have hmem : (k, v) ∈ left := hp2.mem_iff.1 (by simp)
              have hall := okK.perm hok hp2.symm
              obtain ⟨p, hk⟩ := hok.1 _ hmem
              simp only at hk
              subst hk
              have hag := allE_ok b7 _ hmem
              simp only at hag
              unfold aggOk at hag
              split at hag
              · rename_i lv
                rw [Bool.and_eq_true] at hag
                have hnd : (done.map (·.1) ++ AV.int .i64 p :: l'.map (·.1)).Nodup := by
                  have := hall.2
                  rwa [List.map_append, List.map_cons] at this
                have hnot : AV.int .i64 p ∉ done.map (·.1) := fun q => by
                  have := List.nodup_append.1 hnd
                  exact this.2.2 _ q _ (by simp) rfl
                have hdone : okK done := ⟨fun e he => hall.1 e (by simp [he]), (List.nodup_append.1 hnd).1⟩
                obtain ⟨F2, h2, e1, e2, e3, e4, ⟨tb, e5⟩, e6⟩ := copy_round (call := call) (fuel := fuel) hcp (by rw [hFcget, if_pos b2]; exact hit) (by rw [hFcget, if_pos b3]; exact htm) g1 (by rw [g2 r hri hrm]; exact hr) g4 (hw'.fresh _ (Nat.le_refl _)) (beqN_true hag.1) hag.2 hdone hnot
                have e7 : codeX P nt outs call fuel (.block id1 B) F' hx = .norm F2 h2 := by rw [codeX_block, e1]
                refine wp_mono (hBody F' hx a' w' ρ' (by rw [e7]; intro y e; cases e) hw' hl' hg' hf' hm') fun e a2 w2 hd => ?_
                rw [e7] at hd
                obtain ⟨F3, h3', hor, ρ2, k1, k2, k3⟩ := hd
                rcases hor with ⟨q, rfl⟩ | ⟨q, _⟩ | ⟨_, q, _⟩
                · simp only [XR.norm.injEq] at q
                  obtain ⟨rfl, rfl⟩ := q
                  have hmn : m ≠ hx.next := fun e => by rw [e] at g4; rw [hw'.fresh _ (Nat.le_refl _)] at g4; cases g4
                  have hin : i ≠ hx.next := fun e => by rw [e] at g1; rw [hw'.fresh _ (Nat.le_refl _)] at g1; cases g1
                  have hrm1 : hx.t.get hx.next = none := hw'.fresh _ (Nat.le_refl _)
                  refine ⟨rfl, frL ts F2, ⟨hx.t.set m (.map (done ++ [(.int .i64 p, .agg lv)]) (v0 + done.length + 1)), hx.next + 1⟩, ρ2, ⟨?_, done ++ [(.int .i64 p, .agg lv)], some (.int .i64 p, .agg lv), ?_, ?_, ?_, ?_, fun j hji hjm => ?_⟩, k1.gone (i := hx.next) (b := .cells tb sz true) ?_ (fun j hj => ?_) (.inr ?_) e5 (fun _ _ e => (by cases e)) (fun _ e => (by cases e)) (fun _ _ e => (by cases e)), k2.frL ts, k3.frL ts⟩
                  · rw [← hFc]
                    refine frL_congr ts fun t ht => ?_
                    rw [e2 t fun q => disj_ok b4 t (hws t (by simp only [List.mem_cons, List.not_mem_nil, or_false] at q ⊢; omega)) ht, ← hFc, frL_get, if_pos ht]
                  · rw [List.append_assoc]; exact hp2
                  · show hx.next + 1 = h.next + (done ++ [(AV.int .i64 p, AV.agg lv)]).length
                    rw [g3]; simp; omega
                  · show (hx.t.set m _).get i = _
                    rw [Tr.get_set_ne _ _ (Ne.symm him)]; exact g1
                  · show (hx.t.set m _).get m = _
                    rw [Tr.get_set_same]; simp; omega
                  · show (hx.t.set m _).get j = _
                    rw [Tr.get_set_ne _ _ hjm]; exact g2 j hji hjm
                  · exact e3.symm
                  · show (hx.t.set m _).get j = _
                    by_cases hjm : j = m
                    · subst hjm; rw [Tr.get_set_same, e4]
                    · rw [Tr.get_set_ne _ _ hjm, e6 j hjm hj]
                  · show (hx.t.set m _).get hx.next = _
                    rw [Tr.get_set_ne _ _ (Ne.symm hmn)]; exact hrm1
                · cases q
                · cases q
              · cases hag
      · exact absurd rfl (hgood _)
    · exact absurd rfl (hgood _)
  · exact absurd rfl (hgood _)
end
end Hx
