/- The evaluator: the worldless operations are the model's. -/
import Derived.Test.YtopkkjgjohgogaaGreatDoorHxB
import Derived.Laws.Strings
import Derived.Laws.Sem
namespace Hx
open Go

theorem VRs.length {ρ : Ren} : ∀ {l : List AV} {vs : List Value}, VRs ρ l vs → l.length = vs.length
  | [], _, h => by cases h; rfl
  | _ :: _, _, h => by cases h with | cons _ _ _ _ _ t => simp [VRs.length t]
theorem VRs.mono {ρ ρ' : Ren} (hle : ρ.le ρ') : ∀ {l : List AV} {vs : List Value}, VRs ρ l vs → VRs ρ' l vs
  | [], _, h => by cases h; exact .nil
  | _ :: _, _, h => by cases h with | cons _ _ _ _ h t => exact .cons _ _ _ _ (h.mono hle) (VRs.mono hle t)
theorem VRs.get {ρ : Ren} : ∀ {l : List AV} {vs : List Value}, VRs ρ l vs → ∀ {i : Nat} {a : AV}, l[i]? = some a → ∃ v, vs[i]? = some v ∧ VR ρ a v
  | [], _, h, i, a, hi => by simp at hi
  | x :: l, _, h, i, a, hi => by
    cases h with
    | cons _ v _ vs h t =>
      cases i with
      | zero => simp at hi; subst hi; exact ⟨v, by simp, h⟩
      | succ i => simp at hi; obtain ⟨u, hu, hr⟩ := VRs.get t hi; exact ⟨u, by simpa using hu, hr⟩
theorem VRs.take {ρ : Ren} : ∀ {l : List AV} {vs : List Value}, VRs ρ l vs → ∀ n, VRs ρ (l.take n) (vs.take n)
  | [], _, h, n => by cases h; simp; exact .nil
  | _ :: _, _, h, n => by
    cases h with
    | cons _ _ _ _ h t => cases n with
      | zero => simp; exact .nil
      | succ n => simp; exact .cons _ _ _ _ h (VRs.take t n)
theorem VRs.drop {ρ : Ren} : ∀ {l : List AV} {vs : List Value}, VRs ρ l vs → ∀ n, VRs ρ (l.drop n) (vs.drop n)
  | [], _, h, n => by cases h; simp; exact .nil
  | _ :: _, _, h, n => by
    cases h with
    | cons _ _ _ _ h t => cases n with
      | zero => simp; exact .cons _ _ _ _ h t
      | succ n => simp; exact VRs.drop t n
theorem VRs.append {ρ : Ren} : ∀ {l : List AV} {vs : List Value}, VRs ρ l vs → ∀ {m : List AV} {us : List Value}, VRs ρ m us → VRs ρ (l ++ m) (vs ++ us)
  | [], _, h, m, us, k => by cases h; simpa using k
  | _ :: _, _, h, m, us, k => by cases h with | cons _ _ _ _ h t => exact .cons _ _ _ _ h (VRs.append t k)

theorem c1_ok (ρ : Ren) (v : Value) : VR ρ (c1 v) v := by
  unfold c1
  split
  · exact .bool _
  · exact .int _ _
  · exact .str _ _ rfl
  · exact .nilp
  · exact .nils
  · exact .nilm
  · exact .func _ _ _ (by exact .nil)
  · exact .nilf
  · exact .nili
  · exact .bot _
theorem c1s_ok (ρ : Ren) : ∀ (l : List Value), VRs ρ (l.map c1) l
  | [] => .nil
  | v :: l => .cons _ _ _ _ (c1_ok ρ v) (c1s_ok ρ l)
theorem cv_ok (ρ : Ren) (v : Value) : VR ρ (cv v) v := by
  unfold cv
  split
  · exact .agg _ _ (c1s_ok ρ _)
  · exact c1_ok ρ _

theorem cells?_ok {ρ : Ren} {x : AV} {v : Value} {l : List AV} (h : VR ρ x v) (hl : cells? x = some l) : VRs ρ l v.cells.toList := by
  have one : ∀ y u, VR ρ y u → VRs ρ [y] [u] := fun y u h => .cons _ _ _ _ h .nil
  cases h <;> simp only [cells?, Option.some.injEq, reduceCtorEq] at hl <;> subst hl <;> simp only [Value.cells]
  all_goals first
    | assumption
    | exact one _ _ (by first | exact .bool _ | exact .int _ _ | exact .str _ _ ‹_› | exact .nilp | exact .ptr _ _ _ _ ‹_› | exact .ptrd _ _ _ ‹_› | exact .nils | exact .sl _ _ _ _ _ _ _ _ ‹_› ‹_› ‹_› ‹_› | exact .sld _ _ _ _ _ _ _ ‹_› ‹_› ‹_› | exact .slz _ _ _ _ ‹_› | exact .nilm | exact .map _ _ _ ‹_› | exact .mapd _ _ ‹_› | exact .func _ _ _ ‹_› | exact .nilf | exact .ifc _ _ _ ‹_› | exact .nili)

theorem evs_ok {ρ : Ren} {F : Fr} {L : List AV} {ds : List (Option Nat)} {f : Operand → Value} : ∀ {xs : List Operand}, (∀ x ∈ xs, VR ρ (ev F L (co ds x)) (f x)) → VRs ρ (evs F L (xs.map (co ds))) (xs.map f)
  | [], _ => .nil
  | x :: xs, h => .cons _ _ _ _ (h x (by simp)) (evs_ok (xs := xs) fun y hy => h y (by simp [hy]))

/-! ### integers -/
theorem fits_iff (n : Int) : fits n = true → -9223372036854775808 ≤ n ∧ n ≤ 9223372036854775807 := by
  cases n with
  | ofNat m => intro h; have : m ≤ 9223372036854775807 := Nat.le_of_ble_eq_true h; simp; omega
  | negSucc m => intro h; have : m ≤ 9223372036854775807 := Nat.le_of_ble_eq_true h; omega
theorem wrap_i64 {n : Int} (h : -9223372036854775808 ≤ n ∧ n ≤ 9223372036854775807) : IntKind.i64.wrap n = n := by
  have e : IntKind.i64.wrap n = if 9223372036854775808 ≤ n % 18446744073709551616 then n % 18446744073709551616 - 18446744073709551616 else n % 18446744073709551616 := by
    simp [IntKind.wrap, IntKind.bits, IntKind.signed]
  rw [e]
  by_cases h0 : 0 ≤ n
  · rw [Int.emod_eq_of_lt h0 (by omega)]; rw [if_neg (by omega)]
  · rw [if_pos (by omega)]; omega
theorem wrapK_eq (k : IntKind) (n : Int) : wrapK k n = k.wrap n := by
  cases k <;> try rfl
  show Bool.rec (motive := fun _ => Int) (IntKind.i64.wrap n) n (fits n) = _
  cases h : fits n with
  | false => rfl
  | true => exact (wrap_i64 (fits_iff n h)).symm
theorem addI_eq (a b : Int) : addI a b = a + b := by cases a <;> cases b <;> rfl
theorem subI_eq (a b : Int) : subI a b = a - b := by
  cases a with
  | negSucc m => rfl
  | ofNat m => cases b with
    | negSucc n => rfl
    | ofNat n =>
      show Bool.rec (motive := fun _ => Int) (Int.ofNat m - Int.ofNat n) (Int.ofNat (m - n)) (Nat.ble n m) = _
      cases h : Nat.ble n m with
      | false => rfl
      | true => have := Nat.le_of_ble_eq_true h; simp only [Int.ofNat_eq_natCast]; omega

section ints
variable {P : Program} {w : World} {t : TypeId}
theorem binI_ok {op : BinOp} {k : IntKind} {a b : Int} {v : AV} (ρ : Ren) (h : binI op k a b = some v) (hs : isSh op = false) :
    ∃ vc, (binOp op t (.int k a) (.int k b)).run P w = .ok vc w ∧ VR ρ v vc := by
  cases op <;> simp only [isSh, Bool.true_eq_false] at hs <;> simp only [binI, Option.some.injEq, wrapK_eq, addI_eq, subI_eq, eqI_eq, ltI_eq, bits2] at h
  case add => subst h; exact ⟨_, by simp [binOp, Op.intArith], .int _ _⟩
  case sub => subst h; exact ⟨_, by simp [binOp, Op.intArith], .int _ _⟩
  case mul => subst h; exact ⟨_, by simp [binOp, Op.intArith], .int _ _⟩
  case quo =>
    by_cases hb : b = 0
    · subst hb; simp at h
    · have : (b == 0) = false := by simpa using hb
      rw [this] at h
      simp only [cond_false, Option.some.injEq] at h
      subst h
      exact ⟨_, by simp [binOp, Op.intDiv, hb], .int _ _⟩
  case rem =>
    by_cases hb : b = 0
    · subst hb; simp at h
    · have : (b == 0) = false := by simpa using hb
      rw [this] at h
      simp only [cond_false, Option.some.injEq] at h
      subst h
      exact ⟨_, by simp [binOp, Op.intDiv, hb], .int _ _⟩
  case and => subst h; exact ⟨_, by simp only [binOp, ne_eq, not_true_eq_false, if_false]; rfl, .int _ _⟩
  case or => subst h; exact ⟨_, by simp only [binOp, ne_eq, not_true_eq_false, if_false]; rfl, .int _ _⟩
  case xor => subst h; exact ⟨_, by simp only [binOp, ne_eq, not_true_eq_false, if_false]; rfl, .int _ _⟩
  case andNot => subst h; exact ⟨_, by simp only [binOp, ne_eq, not_true_eq_false, if_false]; rfl, .int _ _⟩
  case eql => subst h; exact ⟨_, by simp only [binOp, ne_eq, not_true_eq_false, if_false]; rfl, .bool _⟩
  case neq => subst h; exact ⟨_, by simp only [binOp, ne_eq, not_true_eq_false, if_false]; rfl, .bool _⟩
  case lss => subst h; exact ⟨_, by simp only [binOp, ne_eq, not_true_eq_false, if_false]; rfl, .bool _⟩
  case leq => subst h; refine ⟨_, by simp only [binOp, ne_eq, not_true_eq_false, if_false]; rfl, ?_⟩; rw [show (!decide (b < a)) = decide (a ≤ b) by by_cases hh : a ≤ b <;> simp [hh] <;> omega]; exact .bool _
  case gtr => subst h; exact ⟨_, by simp only [binOp, ne_eq, not_true_eq_false, if_false]; rfl, .bool _⟩
  case geq => subst h; refine ⟨_, by simp only [binOp, ne_eq, not_true_eq_false, if_false]; rfl, ?_⟩; rw [show (!decide (a < b)) = decide (a ≥ b) by by_cases hh : b ≤ a <;> simp [hh] <;> omega]; exact .bool _

theorem shI_ok {op : BinOp} {k k' : IntKind} {a b : Int} {v : AV} (ρ : Ren) (h : shI op k a b = some v) :
    ∃ vc, (binOp op t (.int k a) (.int k' b)).run P w = .ok vc w ∧ VR ρ v vc := by
  unfold shI at h
  rw [ltI_eq] at h
  by_cases hb : b < 0
  · simp [hb] at h
  · simp only [hb, decide_false, cond_false] at h
    cases op <;> simp only [Option.some.injEq, reduceCtorEq] at h <;> subst h
    · exact ⟨_, by simp [binOp, Op.shift, hb], .int _ _⟩
    · exact ⟨_, by simp [binOp, Op.shift, hb], .int _ _⟩
end ints

/-! ### strings -/
theorem bytes_eq {x y : List UInt8} : x.map UInt8.toNat = y.map UInt8.toNat ↔ x = y := by
  constructor
  · intro h
    have : Function.Injective UInt8.toNat := fun a b hab => UInt8.toNat_inj.1 hab
    exact List.map_inj_right (fun a b hab => UInt8.toNat_inj.1 hab) |>.1 h
  · rintro rfl; rfl

theorem ltN_bytes : ∀ (x y : List UInt8), ltN (x.map UInt8.toNat) (y.map UInt8.toNat) = Op.bytesLess x y
  | [], [] => rfl
  | [], _ :: _ => rfl
  | _ :: _, [] => rfl
  | a :: x, b :: y => by
    show Bool.rec (motive := fun _ => Bool) (Nat.blt a.toNat b.toNat) (ltN (x.map UInt8.toNat) (y.map UInt8.toNat)) (Nat.beq a.toNat b.toNat) = _
    rw [ltN_bytes x y, beq_nat, blt_nat]
    simp only [Op.bytesLess]
    by_cases h : a = b
    · subst h; simp
    · have h1 : a.toNat ≠ b.toNat := fun e => h (UInt8.toNat_inj.1 e)
      simp [h, h1, UInt8.lt_iff_toNat_lt]

theorem bytesLess_total : ∀ (x y : List UInt8), (Op.bytesLess x y || x == y) = !(Op.bytesLess y x)
  | [], [] => rfl
  | [], _ :: _ => rfl
  | _ :: _, [] => rfl
  | a :: x, b :: y => by
    have ih := bytesLess_total x y
    simp only [Op.bytesLess]
    by_cases h : a = b
    · subst h; simpa using ih
    · have h1 : a.toNat ≠ b.toNat := fun e => h (UInt8.toNat_inj.1 e)
      have h2 : b ≠ a := fun e => h e.symm
      by_cases h3 : a < b
      · have : ¬ b < a := by rw [UInt8.lt_iff_toNat_lt] at *; omega
        simp [h2, h3, this]
      · have : b < a := by rw [UInt8.lt_iff_toNat_lt] at *; omega
        simp [h, h3, this]

section strs
variable {P : Program} {w : World} {t : TypeId}
theorem binS_ok {op : BinOp} {a b : List Nat} {x y : ByteArray} {v : AV} (ρ : Ren) (hx : x.data.toList.map UInt8.toNat = a) (hy : y.data.toList.map UInt8.toNat = b) (h : binS op a b = some v) :
    ∃ vc, (binOp op t (.string x) (.string y)).run P w = .ok vc w ∧ VR ρ v vc := by
  subst hx; subst hy
  have heq : (x.toList == y.toList) = eqN (x.data.toList.map UInt8.toNat) (y.data.toList.map UInt8.toNat) := by
    rw [eqN_iff, ByteArray.toList_eq, ByteArray.toList_eq]
    by_cases h : x.data.toList = y.data.toList
    · simp [h]
    · rw [decide_eq_false (fun e => h (bytes_eq.1 e))]; simpa using fun e => h (by simpa using congrArg Array.toList e)
  have hlt : ∀ x y : ByteArray, Op.bytesLess x.toList y.toList = ltN (x.data.toList.map UInt8.toNat) (y.data.toList.map UInt8.toNat) := fun x y => by
    rw [ltN_bytes, ByteArray.toList_eq, ByteArray.toList_eq]
  have htot : ∀ x y : ByteArray, (Op.bytesLess x.toList y.toList || x.toList == y.toList) = !(ltN (y.data.toList.map UInt8.toNat) (x.data.toList.map UInt8.toNat)) := fun x y => by
    rw [bytesLess_total, hlt]
  cases op <;> simp only [binS, Option.some.injEq, reduceCtorEq] at h
  case add =>
    rw [lenN_eq, lenN_eq, ble_nat] at h
    by_cases hb : (x.data.toList.map UInt8.toNat).length + (y.data.toList.map UInt8.toNat).length ≤ 1073741824
    · simp only [hb, decide_true, cond_true, Option.some.injEq] at h
      subst h
      have hn : ¬ ((x.size + y.size : Nat) : Int) > IntKind.i64.max := by
        simp at hb
        have h1 : x.size = x.data.size := rfl
        have h2 : y.size = y.data.size := rfl
        have : IntKind.i64.max = 9223372036854775807 := by decide
        rw [this]; omega
      refine ⟨.string (x ++ y), ?_, .str _ _ (by simp)⟩
      simp only [binOp, Op.stringOp]
      rw [if_neg hn]; rfl
    · rw [decide_eq_false hb] at h; simp at h
  case eql => subst h; exact ⟨_, rfl, by rw [← heq]; exact .bool _⟩
  case neq => subst h; exact ⟨_, rfl, by rw [← heq]; exact .bool _⟩
  case lss => subst h; exact ⟨_, rfl, by rw [← hlt]; exact .bool _⟩
  case leq => subst h; exact ⟨_, rfl, by rw [← htot]; exact .bool _⟩
  case gtr => subst h; exact ⟨_, rfl, by rw [show ltN (y.data.toList.map UInt8.toNat) (x.data.toList.map UInt8.toNat) = !(Op.bytesLess x.toList y.toList || x.toList == y.toList) by rw [htot]; simp]; exact .bool _⟩
  case geq => subst h; exact ⟨_, rfl, by rw [← hlt]; exact .bool _⟩
end strs
end Hx
