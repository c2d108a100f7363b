/- The evaluator's memory and the model's: how they are related; laws of the maps. -/
import Derived.Test.YtopkkjgjohgogaaGreatDoorHxA
import Derived.Tactics
namespace Hx
open Go

/-! ### maps -/
namespace Tr
variable {α : Type}
theorem get_nil (n : Nat) : (Tr.nil : Tr α).get n = none := rfl
theorem get_node (l : Tr α) (v : Option α) (r : Tr α) (n : Nat) :
    (Tr.node l v r).get n = match n with | 0 => v | m + 1 => if m % 2 = 0 then l.get (m / 2) else r.get (m / 2) := by
  cases n with
  | zero => rfl
  | succ m =>
    show Bool.rec (motive := fun _ => Option α) (r.get (m / 2)) (l.get (m / 2)) (Nat.beq (m % 2) 0) = _
    by_cases h : m % 2 = 0
    · simp [h]
    · have : Nat.beq (m % 2) 0 = false := by cases hb : Nat.beq (m % 2) 0 with
        | false => rfl
        | true => exact absurd (Nat.eq_of_beq_eq_true hb) h
      simp [h, this]

theorem single_zero (n : Nat) (x : α) : single 0 n x = nil := rfl
theorem single_succ (f n : Nat) (x : α) : single (f + 1) n x = match n with
    | 0 => node nil (some x) nil
    | m + 1 => if m % 2 = 0 then node (single f (m / 2) x) none nil else node nil none (single f (m / 2) x) := by
  cases n with
  | zero => rfl
  | succ m =>
    show Bool.rec (motive := fun _ => Tr α) (node nil none (single f (m / 2) x)) (node (single f (m / 2) x) none nil) (Nat.beq (m % 2) 0) = _
    by_cases h : m % 2 = 0
    · simp [h]
    · have : Nat.beq (m % 2) 0 = false := by cases hb : Nat.beq (m % 2) 0 with
        | false => rfl
        | true => exact absurd (Nat.eq_of_beq_eq_true hb) h
      simp [h, this]

theorem set_nil (n : Nat) (x : α) : (nil : Tr α).set n x = single (n + 1) n x := rfl
theorem set_node (l : Tr α) (v : Option α) (r : Tr α) (n : Nat) (x : α) : (node l v r).set n x = match n with
    | 0 => node l (some x) r
    | m + 1 => if m % 2 = 0 then node (l.set (m / 2) x) v r else node l v (r.set (m / 2) x) := by
  cases n with
  | zero => rfl
  | succ m =>
    show Bool.rec (motive := fun _ => Tr α) (node l v (r.set (m / 2) x)) (node (l.set (m / 2) x) v r) (Nat.beq (m % 2) 0) = _
    by_cases h : m % 2 = 0
    · simp [h]
    · have : Nat.beq (m % 2) 0 = false := by cases hb : Nat.beq (m % 2) 0 with
        | false => rfl
        | true => exact absurd (Nat.eq_of_beq_eq_true hb) h
      simp [h, this]

theorem get_single (f : Nat) : ∀ (n m : Nat) (x : α), n < f → (single f n x).get m = if m = n then some x else none := by
  induction f with
  | zero => intro n m x h; omega
  | succ f ih =>
    intro n m x h
    rw [single_succ]
    cases n with
    | zero =>
      simp only [get_node]
      cases m with
      | zero => simp
      | succ m => simp [get_nil]
    | succ n =>
      simp only
      split
      · rename_i hn
        rw [get_node]
        cases m with
        | zero => simp
        | succ m =>
          simp only
          split
          · rename_i hm
            rw [ih (n / 2) (m / 2) x (by omega)]
            by_cases e : m / 2 = n / 2
            · rw [if_pos e, if_pos (by omega)]
            · rw [if_neg e, if_neg (by omega)]
          · rw [get_nil, if_neg (by omega)]
      · rename_i hn
        rw [get_node]
        cases m with
        | zero => simp
        | succ m =>
          simp only
          split
          · rw [get_nil, if_neg (by omega)]
          · rename_i hm
            rw [ih (n / 2) (m / 2) x (by omega)]
            by_cases e : m / 2 = n / 2
            · rw [if_pos e, if_pos (by omega)]
            · rw [if_neg e, if_neg (by omega)]

theorem get_set (t : Tr α) : ∀ (n m : Nat) (x : α), (t.set n x).get m = if m = n then some x else t.get m := by
  induction t with
  | nil => intro n m x; rw [set_nil, get_single _ _ _ _ (by omega), get_nil]
  | node l v r ihl ihr =>
    intro n m x
    rw [set_node]
    cases n with
    | zero =>
      simp only [get_node]
      cases m with
      | zero => simp
      | succ m => simp
    | succ n =>
      simp only
      split
      · rename_i hn
        rw [get_node, get_node]
        cases m with
        | zero => simp
        | succ m =>
          simp only
          split
          · rename_i hm
            rw [ihl]
            by_cases e : m / 2 = n / 2
            · rw [if_pos e, if_pos (by omega)]
            · rw [if_neg e, if_neg (by omega)]
          · rw [if_neg (by omega)]
      · rename_i hn
        rw [get_node, get_node]
        cases m with
        | zero => simp
        | succ m =>
          simp only
          split
          · rw [if_neg (by omega)]
          · rename_i hm
            rw [ihr]
            by_cases e : m / 2 = n / 2
            · rw [if_pos e, if_pos (by omega)]
            · rw [if_neg e, if_neg (by omega)]

theorem get_set_same (t : Tr α) (n : Nat) (x : α) : (t.set n x).get n = some x := by rw [get_set, if_pos rfl]
theorem get_set_ne (t : Tr α) {n m : Nat} (x : α) (h : m ≠ n) : (t.set n x).get m = t.get m := by rw [get_set, if_neg h]
end Tr

/-! ### lists -/
theorem lenN_eq {α : Type} (l : List α) : lenN l = l.length := by
  induction l with
  | nil => rfl
  | cons x l ih => show Nat.succ (lenN l) = _; rw [ih]; rfl

theorem nth_nil (n : Nat) : nth [] n = .bot := rfl
theorem nth_zero (v : AV) (l : List AV) : nth (v :: l) 0 = v := rfl
theorem nth_succ (v : AV) (l : List AV) (n : Nat) : nth (v :: l) (n + 1) = nth l n := rfl

theorem eqN_iff (a : List Nat) : ∀ b, eqN a b = decide (a = b) := by
  induction a with
  | nil => intro b; cases b <;> simp [eqN]
  | cons x a ih =>
    intro b
    cases b with
    | nil => simp [eqN]
    | cons y b =>
      show Bool.rec (motive := fun _ => Bool) false (eqN a b) (Nat.beq x y) = _
      rw [ih]
      by_cases h : x = y
      · subst h; simp
      · have : Nat.beq x y = false := by cases hb : Nat.beq x y with
          | false => rfl
          | true => exact absurd (Nat.eq_of_beq_eq_true hb) h
        simp [this, h]

theorem beq_nat (a b : Nat) : Nat.beq a b = decide (a = b) := by
  by_cases h : a = b
  · subst h; simp
  · have : Nat.beq a b = false := by cases hb : Nat.beq a b with
      | false => rfl
      | true => exact absurd (Nat.eq_of_beq_eq_true hb) h
    simp [this, h]
theorem ble_nat (a b : Nat) : Nat.ble a b = decide (a ≤ b) := by
  cases h : Nat.ble a b with
  | true => simp [Nat.le_of_ble_eq_true h]
  | false => have : ¬ a ≤ b := fun hle => by rw [Nat.ble_eq_true_of_le hle] at h; cases h
             simp [this]
theorem blt_nat (a b : Nat) : Nat.blt a b = decide (a < b) := by
  show Nat.ble (a + 1) b = _
  rw [ble_nat]; rfl

theorem eqB_eq (a b : Bool) : eqB a b = (a == b) := by cases a <;> cases b <;> rfl
theorem eqI_eq (a b : Int) : eqI a b = (a == b) := by
  rw [Bool.eq_iff_iff, beq_iff_eq]
  cases a <;> cases b <;> simp [eqI, beq_nat] <;> omega
theorem ltI_eq (a b : Int) : ltI a b = decide (a < b) := by
  cases a with
  | ofNat m => cases b with
    | ofNat n => simp [ltI, blt_nat]
    | negSucc n => simp only [ltI]; symm; simp; omega
  | negSucc m => cases b with
    | ofNat n => simp only [ltI]; symm; simp; omega
    | negSucc n => simp only [ltI, blt_nat]; congr 1; apply propext; constructor <;> intro h <;> omega
theorem eqK_eq (a b : IntKind) : eqK a b = decide (a = b) := by cases a <;> cases b <;> rfl

/-! ### the relation -/
inductive Slot where
  | no
  | dead
  | live (b n : Nat)
abbrev Ren := Nat → Slot

mutual
inductive VR (ρ : Ren) : AV → Value → Prop
  | bot (v : Value) : VR ρ .bot v
  | bool (b : Bool) : VR ρ (.bool b) (.bool b)
  | int (k : IntKind) (n : Int) : VR ρ (.int k n) (.int k n)
  | str (l : List Nat) (s : ByteArray) (h : s.data.toList.map UInt8.toNat = l) : VR ρ (.str l) (.string s)
  | nilp : VR ρ .nilp (.pointer none)
  | ptr (i off b n : Nat) (h : ρ i = .live b n) : VR ρ (.ptr i off) (.pointer (some ⟨b, off, none⟩))
  | ptrd (i off : Nat) (a : Addr) (h : ρ i = .dead) : VR ρ (.ptr i off) (.pointer (some a))
  | nils : VR ρ .nils (.slice none 0 0)
  | sl (i off len cap esz b n c : Nat) (h : ρ i = .live b n) (h1 : cap ≤ c) (h2 : len ≤ cap) (h3 : off + c * esz ≤ n) : VR ρ (.sl i off len cap esz) (.slice (some ⟨b, off, none⟩) len c)
  | sld (i off len cap esz : Nat) (a : Addr) (c : Nat) (h : ρ i = .dead) (h1 : cap ≤ c) (h2 : len ≤ cap) : VR ρ (.sl i off len cap esz) (.slice (some a) len c)
  | slz (i off esz : Nat) (a : Addr) (h : ρ i ≠ .no) : VR ρ (.sl i off 0 0 esz) (.slice (some a) 0 0)
  | nilm : VR ρ .nilm (.map none)
  | map (i b n : Nat) (h : ρ i = .live b n) : VR ρ (.map i) (.map (some b))
  | mapd (i b : Nat) (h : ρ i = .dead) : VR ρ (.map i) (.map (some b))
  | func (f : Nat) (caps : List AV) (captured : Array Value) (h : VRs ρ caps captured.toList) : VR ρ (.func f caps) (.func (.func f) #[] captured)
  | nilf : VR ρ .nilf .nilFunc
  | ifc (t : Nat) (v : AV) (u : Value) (h : VR ρ v u) : VR ρ (.ifc t v) (.iface t u)
  | nili : VR ρ .nili .nilIface
  | agg (l : List AV) (cs : Array Value) (h : VRs ρ l cs.toList) : VR ρ (.agg l) (.agg cs)
  | tup (l : List AV) (cs : Array Value) (h : VRs ρ l cs.toList) : VR ρ (.tup l) (.tuple cs)
inductive VRs (ρ : Ren) : List AV → List Value → Prop
  | nil : VRs ρ [] []
  | cons (a : AV) (v : Value) (l : List AV) (vs : List Value) (h : VR ρ a v) (t : VRs ρ l vs) : VRs ρ (a :: l) (v :: vs)
end

/-- what was there is there, or is gone -/
def Ren.le (ρ ρ' : Ren) : Prop := (∀ i b n, ρ i = .live b n → ρ' i = .live b n ∨ ρ' i = .dead) ∧ (∀ i, ρ i = .dead → ρ' i = .dead)
theorem Ren.le_refl (ρ : Ren) : ρ.le ρ := ⟨fun _ _ _ h => .inl h, fun _ h => h⟩
theorem Ren.le_trans {a b c : Ren} (h : a.le b) (k : b.le c) : a.le c :=
  ⟨fun i x n hi => (h.1 i x n hi).elim (fun e => k.1 i x n e) (fun e => .inr (k.2 i e)), fun i hi => k.2 i (h.2 i hi)⟩

theorem VR.mono {ρ ρ' : Ren} (hle : ρ.le ρ') {a : AV} {v : Value} (h : VR ρ a v) : VR ρ' a v := by
  refine VR.rec (motive_1 := fun a v _ => VR ρ' a v) (motive_2 := fun l vs _ => VRs ρ' l vs) ?_ ?_ ?_ ?_ ?_ ?_ ?_ ?_ ?_ ?_ ?_ ?_ ?_ ?_ ?_ ?_ ?_ ?_ ?_ ?_ ?_ ?_ h
  · exact fun v => .bot v
  · exact fun b => .bool b
  · exact fun k n => .int k n
  · exact fun l s h => .str l s h
  · exact .nilp
  · intro i off b n h
    rcases hle.1 i b n h with e | e
    · exact .ptr i off b n e
    · exact .ptrd i off _ e
  · exact fun i off a h => .ptrd i off a (hle.2 i h)
  · exact .nils
  · intro i off len cap esz b n c h h1 h2 h3
    rcases hle.1 i b n h with e | e
    · exact .sl i off len cap esz b n c e h1 h2 h3
    · exact .sld i off len cap esz _ c e h1 h2
  · exact fun i off len cap esz a c h h1 h2 => .sld i off len cap esz a c (hle.2 i h) h1 h2
  · intro i off esz a h
    refine .slz i off esz a ?_
    cases hi : ρ i with
    | no => exact absurd hi h
    | dead => rw [hle.2 i hi]; simp
    | live b n => rcases hle.1 i b n hi with e | e <;> rw [e] <;> simp
  · exact .nilm
  · intro i b n h
    rcases hle.1 i b n h with e | e
    · exact .map i b n e
    · exact .mapd i b e
  · exact fun i b h => .mapd i b (hle.2 i h)
  · exact fun f caps captured _ ih => .func f caps captured ih
  · exact .nilf
  · exact fun t v u _ ih => .ifc t v u ih
  · exact .nili
  · exact fun l cs _ ih => .agg l cs ih
  · exact fun l cs _ ih => .tup l cs ih
  · exact .nil
  · exact fun a v l vs _ _ h t => .cons a v l vs h t

end Hx
