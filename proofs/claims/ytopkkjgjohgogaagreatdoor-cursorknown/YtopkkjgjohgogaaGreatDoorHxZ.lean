/- hindsightlaw25.CursorKnown: the call hands back true, whatever the world, and leaves what was there as it was. -/
import Derived.Test.YtopkkjgjohgogaaGreatDoorTie
import Derived.Test.YtopkkjgjohgogaaGreatDoorCards
import Derived.ProofKit
import Derived.OpenShut
import Derived.LaidMore
import Derived.Lay
import Derived.SevenTiedAt
import Derived.Stop.Joined
import Derived.Test.YtopkkjgjohgogaaGreatDoorHxKF
import Derived.Test.YtopkkjgjohgogaaGreatDoorHxUs
import Derived.Test.YtopkkjgjohgogaaGreatDoorHxJ1
import Derived.Test.YtopkkjgjohgogaaGreatDoorHxFacts
namespace Go.Proofs.YtopkkjgjohgogaaGreatDoor
open Go.ChangeShapes Go.WideShapes Go.ChangeAt Go.RowKit

theorem laid_mem {P : Program} {W : World} {n : String} {d : DataW Unit} : ∀ {l : List (String × DataW Unit)} {ps : List MemPlace}, DataW.LaidVars P W l ps → (n, d) ∈ l →
    ∃ g t cs fuel p, P.globalNamed n = some g ∧ (P.globals[g]?).map (·.type) = some t ∧ W.var? P n = some cs ∧ DataW.trod (fun _ => ()) P W 0 (fun _ => true) false fuel t cs.toList = some (d, p)
  | [], _, _, hm => by simp at hm
  | (n', d') :: l, ps, h, hm => by
    obtain ⟨g, t, cs, fuel, p, q, hg, ht, hv, hd, hr, _⟩ := h
    rcases List.mem_cons.1 hm with e | hm
    · obtain ⟨rfl, rfl⟩ := Prod.mk.inj e
      exact ⟨g, t, cs, fuel, p, hg, ht, hv, hd⟩
    · exact laid_mem hr hm

theorem laid_row {P : Program} {W : World} {n : String} {g t e len : Nat} {kd : IntKind} {zs : List Nat} {l : List (String × DataW Unit)} {ps : List MemPlace} {d : DataW Unit} (hl : DataW.LaidVars P W l ps) (hm : (n, d) ∈ l) (hg : P.globalNamed n = some g) (ht : (P.globals[g]?).map (·.type) = some t)
    (hu : P.underlying t = some (.array len e)) (he : P.underlying e = some (.int kd)) (hc : P.cellsOf e = 1) (hd : d = .agg (zs.map fun z => .lit (.int kd (Int.ofNat z)))) (hz : zs.length = len) : ∀ k, k < len → W.cell? ⟨g, k, Option.none⟩ = some (.int kd (Int.ofNat (zs.getD k 0))) := fun k hk => by
  obtain ⟨g', t', cs, fuel, p, hg', ht', hv, htr⟩ := laid_mem hl hm
  obtain rfl := Option.some.inj (hg.symm.trans hg')
  obtain rfl := Option.some.inj (ht.symm.trans ht')
  obtain ⟨xs, m, _, ex, _, hxl, hel⟩ := DataW.trod_array hu htr
  have hE := hel k hk
  rw [hc, Nat.mul_one, List.getElem?_eq_getElem (by omega)] at hE
  obtain ⟨z, e1, e2, _⟩ := DataW.trod_int he hE
  have e3 : xs.map (·.1) = zs.map fun z => .lit (.int kd (Int.ofNat z)) := by
    have := (Prod.mk.inj ex).1
    rw [hd] at this
    exact (DataW.agg.inj this).symm
  have e4 : (xs.map (·.1))[k]? = (zs.map fun z => (DataW.lit (.int kd (Int.ofNat z)) : DataW Unit))[k]? := by rw [e3]
  rw [List.getElem?_map, List.getElem?_map, List.getElem?_eq_getElem (by omega : k < xs.length), List.getElem?_eq_getElem (by omega : k < zs.length), e2] at e4
  have hzz : z = Int.ofNat (zs.getD k 0) := by
    simp only [Option.map_some, Option.some.injEq, DataW.lit.injEq, Lit.int.injEq, true_and] at e4
    rw [e4, List.getD, List.getElem?_eq_getElem (by omega : k < zs.length)]; rfl
  rw [World.var?_cell hg hv k, ← hzz]
  have : cs.toList[k]? = some (.int kd z) := by
    have h0 : ((cs.toList.drop k).take 1)[0]? = some (.int kd z) := by rw [e1]; rfl
    simpa using h0
  simpa using this

theorem noNG : Tryz.prog.funcs.all (fun fn => fn.name != "runtime.NumGoroutine") = true := by kernel_rfl
theorem fin (W : World) (hL : laidMetH Tryz.prog Rows.cursorKnownRow.laid W) : Calls Tryz.prog 3 #[] W fun e w' => e = .returned (.bool true) ∧ W.heap.size ≤ w'.heap.size ∧ (∀ b, b < W.heap.size → w'.heap[b]? = W.heap[b]?) ∧ w'.tape = W.tape ∧ w'.os = W.os ∧ w'.output = W.output := by
  rw [MakeChecks.laidMetH_plain _ _ _ (by kernel_rfl)] at hL
  obtain ⟨ps, hlv, _⟩ := hL
  have hp := laid_row (zs := Hx.propsZ) hlv (n := "unicode.properties") (d := Rows.laid_unicode_properties) (by simp [Rows.cursorKnownRow]) (show Tryz.prog.globalNamed "unicode.properties" = some 0 by kernel_rfl) (show (Tryz.prog.globals[0]?).map (·.type) = some 260 by kernel_rfl) Tryz.underlying260 Tryz.underlying5 (by kernel_rfl) (by kernel_rfl) Hx.props_len
  have hq := laid_row (zs := Hx.powsZ) hlv (n := "internal/strconv.uint64pow10") (d := Rows.laid_internal_strconv_uint64pow10) (by simp [Rows.cursorKnownRow]) (show Tryz.prog.globalNamed "internal/strconv.uint64pow10" = some 5 by kernel_rfl) (show (Tryz.prog.globals[5]?).map (·.type) = some 316 by kernel_rfl) Tryz.underlying316 Tryz.underlying130 (by kernel_rfl) (by kernel_rfl) Hx.pows_len
  have hs : 8 ≤ W.heap.size := by
    obtain ⟨g, t, cs, fuel, p, hg, _, hv, _⟩ := laid_mem (n := "math/bits.deBruijn64tab") (d := Rows.laid_math_bits_deBruijn64tab) hlv (by simp [Rows.cursorKnownRow])
    obtain rfl := Option.some.inj ((show Tryz.prog.globalNamed "math/bits.deBruijn64tab" = some 8 by kernel_rfl).symm.trans hg)
    unfold World.var? at hv
    rw [hg] at hv
    simp only [Option.bind_some] at hv
    rcases Nat.lt_or_ge 8 W.heap.size with q | q
    · omega
    · rw [Array.getElem?_eq_none q] at hv; cases hv
  have hng : Hx.NoNG Tryz.prog := fun f fn hf => by
    have := Array.all_eq_true'.1 noNG fn (Array.mem_of_getElem? hf)
    simpa using this
  have hmx : Tryz.prog.follows .mixedOrders = true := by kernel_rfl
  have hc := fines (fun _ h => Hx.plugV_ok (ovUs hmx hng h) (ovCs hmx hng h) ovJs (Hx.stepS_ok hmx hng 100000 h))
  obtain ⟨h1, hrun⟩ := Hx.isTrue_ok top_run
  exact (Hx.run_start (by decide) (by decide) hs hp hq hc hrun).2



theorem kept_same {W W' : World} {may : MemPlace → Prop} (hsame : ∀ b, b < W.heap.size → W'.heap[b]? = W.heap[b]?) (hos : W'.os = W.os) (hout : W'.output = W.output) : W.keptBut W' may := by
  refine ⟨hos, hout, fun i hi => ?_⟩
  rw [hsame i hi]
  split
  · rename_i h1 h2
    rw [h1] at h2
    simp only [Option.some.injEq, Obj.cells.injEq] at h2
    obtain ⟨rfl, rfl, rfl⟩ := h2
    exact ⟨rfl, rfl, rfl, fun _ _ => rfl⟩
  · rename_i h1 h2
    rw [h1] at h2
    simp only [Option.some.injEq, Obj.map.injEq] at h2
    obtain ⟨rfl, rfl⟩ := h2
    exact .inr ⟨rfl, rfl⟩
  · rfl

theorem own : ownKnob Tryz.prog.godebug = none := by kernel_rfl

theorem goesBy_false {P : Program} {c : OpenClaim} (hall : P.funcs.all (fun fn => !fn.goes) = true) (hs : c.start = .entering) : false = c.goesBy P := by
  have h0 : ∀ (g : Nat) fn, P.funcs[g]? = some fn → fn.goes = false := fun g fn h => by
    have := Array.all_eq_true'.1 hall fn (Array.mem_of_getElem? h)
    simpa using this
  have h1 : ∀ f, P.goes f = false := fun f => by
    unfold Program.goes
    rw [Bool.or_eq_false_iff]
    constructor
    · rw [List.any_eq_false]
      intro g _
      cases hg : P.funcs[g]? with
      | none => exact Bool.false_ne_true
      | some fn => rw [Option.any_some, h0 g fn hg]; exact Bool.false_ne_true
    · rw [Bool.and_eq_false_iff]
      right
      rw [Array.any_eq_false]
      intro i hi
      rw [h0 i _ (Array.getElem?_eq_getElem hi)]
      exact Bool.false_ne_true
  have h2 : ∀ o : Option Nat, o.any P.goes = false := fun o => by
    cases o with
    | none => rfl
    | some f => exact h1 f
  unfold OpenClaim.goesBy Program.goesAt Program.goesFrom
  rw [h2, hs]
  rfl
theorem goes_false : false = Rows.cursorKnownRow.goesBy Tryz.pinned.checked.prog := goesBy_false (by kernel_rfl) rfl

set_option maxRecDepth 100000 in
theorem lifted (os : Os) (started : os.Started) (H : Type) (enc : TypeId × Value → H) :
    ReturnsInHanded {} Tryz.checked os 3 .any (fun w args => (Rows.cursorKnownSpec.pre enc Tryz.prog Tryz.f3 Rows.cursorKnownRow.domain false w args ∧ laidMetH Tryz.prog Rows.cursorKnownRow.laid w) ∧ sizedMet enc Tryz.prog Tryz.f3 (OpenSpec.ofChange Rows.cursorKnownSpec) false w args)
      (Rows.cursorKnownSpec.post enc Tryz.prog Tryz.f3 false true false false) := by
  refine returnsInHanded_of_change_and (C := Tryz.checked) (X := fun w _ => laidMetH Tryz.prog Rows.cursorKnownRow.laid w) (fun _ _ _ hh h => h.of_heap hh) own started (by kernel_rfl) Tryz.func3
    (ChangeSpec.witness_shaped (enc := enc) (C := Tryz.checked) (os := os) (X := fun w _ => laidMetH Tryz.prog Rows.cursorKnownRow.laid w) false (World.laidAll Tryz.prog os Rows.cursorKnownRow.laid) #[] 8 (World.laidAll_os _ _ _)
      (World.shaped_of_ZipB (by kernel_rfl) (by kernel_rfl)) (by kernel_rfl) (by kernel_rfl) (by kernel_rfl)
      (by rw [MakeChecks.laidMetH_plain _ _ _ (by kernel_rfl)]; exact laidMet_laidAll _ (by kernel_rfl) (by kernel_rfl))) ?_
  intro W base args ds gs before hval0 hW hc _ hL _
  have hW' := hW
  obtain ⟨p, q, hA0, hV, rfl, _, _⟩ := hW
  have hA : DataW.TrodAll enc Tryz.prog W 0 (fun _ => true) true Tryz.f3.params.toList args.toList ds p := hA0
  rw [Tryz.params3] at hA
  obtain ⟨rfl, rfl, rfl⟩ := trodAll_none hA
  obtain ⟨rfl, rfl⟩ := trodVars_none hV
  simp only [List.append_nil] at hW'
  refine (fin W hL).mono fun e W' ⟨he, hsz, hsame, _, hos, hout⟩ => ?_
  subst he
  have hk : W.keptBut W' (fun _ => False) := kept_same hsame hos hout
  exact ⟨_, rfl, [], [], [], [], [], [], hW', trodAll_mk1 (shut_bool Tryz.underlying4 _), rfl, rfl, World.keptBut_mono (fun p hp => hp.elim) hk, fun h => by cases h⟩

theorem holds : Rows.CursorKnownSaid :=
  OpenClaim.holds_of_wide 3 Tryz.f3 rfl rfl rfl rfl rfl rfl rfl ⟨rfl, rfl, rfl, rfl, rfl⟩ rfl rfl rfl rfl rfl (by kernel_rfl) Tryz.func3 facts
    (of_decide_eq_true (by kernel_rfl)) (by unfold Func.isWrapper; first | (rw [if_pos (by decide +kernel)]; kernel_rfl) | (rw [if_neg (by decide +kernel)]; exact ⟨rfl, rfl⟩))
    (fun os started H enc _ => lifted os started H enc)

theorem card_holds : Rows.CursorKnownCardSaid :=
  Claim7.holds_tied_plain_at .later [] [.data, .data, .data, .data, .data, .pinned, .pinned, .pinned] true (true, "9c23acaf681e513da1253677e7f75e961450c0b79ffe3c008f4f5aa099c0fb6c") false holds (fun _ h => by cases h) (by kernel_rfl) (fun _ h => by cases h) cursorKnown_row_tie rfl ⟨rfl, rfl⟩ (by kernel_rfl) rfl
    (fun f fn hf hfn => by
      obtain rfl : f = 3 := Option.some.inj ((show Tryz.prog.funcNamed "hindsight/hindsightlaw25.CursorKnown" = some 3 by kernel_rfl).symm.trans hf) |>.symm
      obtain rfl : fn = Tryz.f3 := (Option.some.inj (Tryz.func3.symm.trans hfn)).symm
      exact ⟨by kernel_rfl, fun j t ht => by
        rw [Tryz.params3] at ht
        simp at ht⟩)
    goes_false
end Go.Proofs.YtopkkjgjohgogaaGreatDoor
