/- The evaluator's start: the memory that the program's variables lay. -/
import Derived.Test.YtopkkjgjohgogaaGreatDoorHxA
import Derived.Test.YtopkkjgjohgogaaGreatDoorHxW
namespace Hx
open Go
def propsZ : List Nat := [1, 1, 1, 1, 1, 1, 1, 1, 1, 1, 1, 1, 1, 1, 1, 1, 1, 1, 1, 1, 1, 1, 1, 1, 1, 1, 1, 1, 1, 1, 1, 1, 144, 130, 130, 130, 136, 130, 130, 130, 130, 130, 130, 136, 130, 130, 130, 130, 132, 132, 132, 132, 132, 132, 132, 132, 132, 132, 130, 130, 136, 136, 136, 130, 130, 160, 160, 160, 160, 160, 160, 160, 160, 160, 160, 160, 160, 160, 160, 160, 160, 160, 160, 160, 160, 160, 160, 160, 160, 160, 160, 130, 130, 130, 136, 130, 136, 192, 192, 192, 192, 192, 192, 192, 192, 192, 192, 192, 192, 192, 192, 192, 192, 192, 192, 192, 192, 192, 192, 192, 192, 192, 192, 130, 136, 130, 136, 1, 1, 1, 1, 1, 1, 1, 1, 1, 1, 1, 1, 1, 1, 1, 1, 1, 1, 1, 1, 1, 1, 1, 1, 1, 1, 1, 1, 1, 1, 1, 1, 1, 16, 130, 136, 136, 136, 136, 136, 130, 136, 136, 224, 130, 136, 0, 136, 136, 136, 136, 132, 132, 136, 192, 130, 130, 136, 132, 224, 130, 132, 132, 132, 130, 160, 160, 160, 160, 160, 160, 160, 160, 160, 160, 160, 160, 160, 160, 160, 160, 160, 160, 160, 160, 160, 160, 160, 136, 160, 160, 160, 160, 160, 160, 160, 192, 192, 192, 192, 192, 192, 192, 192, 192, 192, 192, 192, 192, 192, 192, 192, 192, 192, 192, 192, 192, 192, 192, 192, 136, 192, 192, 192, 192, 192, 192, 192, 192]
def powsZ : List Nat := [1, 10, 100, 1000, 10000, 100000, 1000000, 10000000, 100000000, 1000000000, 10000000000, 100000000000, 1000000000000, 10000000000000, 100000000000000, 1000000000000000, 10000000000000000, 100000000000000000, 1000000000000000000, 10000000000000000000]
noncomputable section
/-- gp, gq: the numbers of the two variables -/
def H0 (gp gq : Nat) : Hp := ⟨((Tr.nil : Tr Blk).set gp (.cells (ofL (propsZ.map fun c => AV.int .u8 (Int.ofNat c))) 256 false)).set gq (.cells (ofL (powsZ.map fun c => AV.int .u64 (Int.ofNat c))) 20 false), 8⟩
end
def isTrue : Res → Bool
  | .ok (.bool b) _ => b
  | _ => false
end Hx

/- The evaluator: where a run starts; a call whose memory is dropped. -/
namespace Hx
open Go

section
variable {P : Program}

/-- the size of a row -/
def rowSize (w : World) (i : Nat) : Nat := match w.heap[i]? with
  | some (.cells c _ _) => c.size
  | _ => 0
/-- the program's variables, at their own places -/
def startRen (w : World) : Ren := fun i => if i < 8 then .live i (rowSize w i) else .no

theorem startRen_live {w : World} {i b n : Nat} (h : startRen w i = .live b n) : i < 8 ∧ b = i ∧ n = rowSize w i := by
  unfold startRen at h
  split at h
  · rename_i h8
    simp only [Slot.live.injEq] at h
    exact ⟨h8, h.1.symm, h.2.symm⟩
  · cases h

theorem H0_get (gp gq i : Nat) : (H0 gp gq).t.get i = if i = gq then some (.cells (ofL (powsZ.map fun c => AV.int .u64 (Int.ofNat c))) 20 false) else if i = gp then some (.cells (ofL (propsZ.map fun c => AV.int .u8 (Int.ofNat c))) 256 false) else none := by
  unfold H0
  by_cases h0 : i = gq
  · subst h0; rw [Tr.get_set_same, if_pos rfl]
  · rw [Tr.get_set_ne _ _ h0, if_neg h0]
    by_cases h2 : i = gp
    · subst h2; rw [Tr.get_set_same, if_pos rfl]
    · rw [Tr.get_set_ne _ _ h2, if_neg h2, Tr.get_nil]

theorem H0_own (gp gq i : Nat) : ¬ Own (H0 gp gq) i := fun ⟨k, hk, hno, _⟩ => by
  rw [H0_get] at hk
  split at hk
  · simp only [Option.some.injEq] at hk; exact hno _ _ hk.symm
  · split at hk
    · simp only [Option.some.injEq] at hk; exact hno _ _ hk.symm
    · cases hk

theorem row_start {ρ : Ren} {h : Hp} {w : World} {g n : Nat} {kd : IntKind} {zs : List Nat} (hn : zs.length = n) (hpos : 0 < n) (hc : ∀ k, k < n → w.cell? ⟨g, k, none⟩ = some (.int kd (Int.ofNat (zs.getD k 0)))) :
    ∃ o, w.heap[g]? = some o ∧ BR ρ h w (rowSize w g) (.cells (ofL (zs.map fun c => AV.int kd (Int.ofNat c))) n false) o := by
  have h0 := hc 0 hpos
  unfold World.cell? at h0
  split at h0
  · rename_i c e fr ho
    have ho' : w.heap[g]? = some (.cells c e fr) := ho
    have hsz : rowSize w g = c.size := by unfold rowSize; rw [ho']
    have hget : ∀ k, k < n → c[k]? = some (.int kd (Int.ofNat (zs.getD k 0))) := fun k hk => by
      have := hc k hk
      unfold World.cell? at this
      simp only [ho'] at this
      simpa using this
    refine ⟨_, ho', c, e, fr, rfl, hsz.symm, ?_, fun k v hk hv => ?_, fun q => by cases q⟩
    · rw [hsz]
      rcases Nat.lt_or_ge (n - 1) c.size with q | q
      · omega
      · have := hget (n - 1) (by omega)
        rw [Array.getElem?_eq_none q] at this; cases this
    · have hkz : k < zs.length := by omega
      rw [ofL_get _ k (by simpa using hkz), List.getElem?_map, List.getElem?_eq_getElem hkz] at hv
      simp only [Option.map_some, Option.some.injEq] at hv
      subst hv
      refine ⟨_, hget k hk, ?_⟩
      rw [List.getD_eq_getElem?_getD, List.getElem?_eq_getElem hkz]
      exact .int _ _
  · cases h0

theorem props_len : propsZ.length = 256 := by decide +kernel
theorem pows_len : powsZ.length = 20 := by decide +kernel

theorem start_ok {gp gq : Nat} (h1 : gp < 8) (h2 : gq < 8) {w : World} (hs : 8 ≤ w.heap.size) (hp : ∀ k, k < 256 → w.cell? ⟨gp, k, none⟩ = some (.int .u8 (Int.ofNat (propsZ.getD k 0)))) (hq : ∀ k, k < 20 → w.cell? ⟨gq, k, none⟩ = some (.int .u64 (Int.ofNat (powsZ.getD k 0)))) :
    WR (startRen w) (H0 gp gq) w ∧ Lim (startRen w) (H0 gp gq) ∧ Gl (startRen w) (H0 gp gq) := by
  refine ⟨⟨fun i b n h => ?_, fun i j b n m h1 h2 => ?_, fun i b n k h hk => ?_, fun i k h hk => ?_, fun i h => ?_, fun i k hk => ?_⟩, fun i h => ?_, fun g h => ⟨⟨rowSize w g, ?_⟩, H0_own gp gq g⟩⟩
  · obtain ⟨h1, rfl, _⟩ := startRen_live h; omega
  · obtain ⟨_, e1, _⟩ := startRen_live h1
    obtain ⟨_, e2, _⟩ := startRen_live h2
    omega
  · obtain ⟨h1, rfl, rfl⟩ := startRen_live h
    rw [H0_get] at hk
    split at hk
    · rename_i e; subst e
      simp only [Option.some.injEq] at hk; subst hk
      exact row_start pows_len (by decide) hq
    · split at hk
      · rename_i e; subst e
        simp only [Option.some.injEq] at hk; subst hk
        exact row_start props_len (by decide) hp
      · cases hk
  · unfold startRen at h
    split at h <;> cases h
  · have h : 8 ≤ i := h
    rw [H0_get, if_neg (by omega), if_neg (by omega)]
  · have hi : i < 8 := by
      rw [H0_get] at hk
      split at hk
      · omega
      · split at hk
        · omega
        · cases hk
    unfold startRen
    rw [if_pos hi]; simp
  · have h : 8 ≤ i := h
    unfold startRen
    rw [if_neg (by omega)]
  · unfold startRen
    rw [if_pos h]

/-- the world is the same but for new blocks of which nobody knows -/
theorem Ext.drop {ρ : Ren} {h : Hp} {w w' : World} (hw : WR ρ h w) (hl : Lim ρ h) (hs : w.heap.size ≤ w'.heap.size) (hf : ∀ b, b < w.heap.size → w'.heap[b]? = w.heap[b]?) (hio : w'.tape = w.tape ∧ w'.os = w.os ∧ w'.output = w.output) : Ext ρ ρ h h w w' :=
  ⟨⟨fun i b n hi => Nat.lt_of_lt_of_le (hw.bd i b n hi) hs, hw.inj, fun i b n k hi hk => by
      obtain ⟨o, h1, h2⟩ := hw.blk i b n k hi hk
      exact ⟨o, by rw [hf b (hw.bd i b n hi)]; exact h1, h2.keep (Ren.le_refl _) fun r c m es ver hr hes => ⟨hr, .inl ⟨hes, hf c (hw.bd r c m hr)⟩⟩⟩, hw.dead, hw.fresh, hw.all⟩,
    hl, Ren.le_refl _, Nat.le_refl _, hs, fun _ _ _ h => .inl h, fun b hb _ => hf b hb, fun _ _ h => h, fun _ _ _ h _ => h, hio⟩

/-- a run from the start that hands back true -/
theorem run_start {f gp gq : Nat} (hgp : gp < 8) (hgq : gq < 8) {w : World} (hs : 8 ≤ w.heap.size) (hp : ∀ k, k < 256 → w.cell? ⟨gp, k, none⟩ = some (.int .u8 (Int.ofNat (propsZ.getD k 0)))) (hq : ∀ k, k < 20 → w.cell? ⟨gq, k, none⟩ = some (.int .u64 (Int.ofNat (powsZ.getD k 0)))) {call : CallT}
    (hcall : CallOk P call) {h' : Hp} (hv : call f [] (H0 gp gq) = .ok (.bool true) h') :
    (∃ fn c, P.funcs[f]? = some fn ∧ fn.body = some c) ∧ Calls P f #[] w fun e w' => e = .returned (.bool true) ∧ w.heap.size ≤ w'.heap.size ∧ (∀ b, b < w.heap.size → w'.heap[b]? = w.heap[b]?) ∧ w'.tape = w.tape ∧ w'.os = w.os ∧ w'.output = w.output := by
  obtain ⟨h1, h2, h3⟩ := start_ok hgp hgq hs hp hq
  obtain ⟨k1, k2⟩ := hcall f [] (H0 gp gq) (.bool true) h' hv (startRen w) w #[] .nil h1 h2 h3
  refine ⟨k1, k2.mono fun e w' ⟨u, ρ', he, hu, hx⟩ => ?_⟩
  cases hu
  exact ⟨he, hx.hs, fun b hb => hx.fr b hb fun i n _ ho => H0_own gp gq i ho, hx.io⟩

theorem isTrue_ok {r : Res} (h : isTrue r = true) : ∃ h', r = .ok (.bool true) h' := by
  unfold isTrue at h
  split at h
  · subst h; exact ⟨_, rfl⟩
  · cases h

end
end Hx
