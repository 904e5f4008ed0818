/- Texts' order is linear. No condition. -/
import Derived.Test.YteojcdpmlhlfaaaOrd
import Derived.Lib.Strings
import Derived.WideShapes
namespace Go.Proofs.Yteojcdpmlhlfaaa
theorem bl_irrefl : ∀ l : List UInt8, Op.bytesLess l l = false
  | [] => rfl
  | a :: l => by
    have : ¬ (a < a) := fun h => absurd h (UInt8.lt_irrefl a)
    simp [Op.bytesLess, this, bl_irrefl l]
theorem bl_trans : ∀ a b c : List UInt8, Op.bytesLess a b = true → Op.bytesLess b c = true → Op.bytesLess a c = true
  | _, [], _, h, _ => by cases ‹List UInt8› <;> simp [Op.bytesLess] at h
  | _, _ :: _, [], _, k => by simp [Op.bytesLess] at k
  | [], _ :: _, _ :: _, _, _ => rfl
  | x :: a, y :: b, z :: c, h, k => by
    simp only [Op.bytesLess, Bool.or_eq_true, Bool.and_eq_true, decide_eq_true_eq, beq_iff_eq] at h k ⊢
    rcases h with h | ⟨rfl, h⟩
    · rcases k with k | ⟨rfl, k⟩
      · exact .inl (UInt8.lt_trans h k)
      · exact .inl h
    · rcases k with k | ⟨rfl, k⟩
      · exact .inl k
      · exact .inr ⟨rfl, bl_trans a b c h k⟩
theorem bl_total : ∀ a b : List UInt8, Op.bytesLess a b = false → Op.bytesLess b a = false → a = b
  | [], [], _, _ => rfl
  | [], _ :: _, h, _ => by simp [Op.bytesLess] at h
  | _ :: _, [], _, k => by simp [Op.bytesLess] at k
  | x :: a, y :: b, h, k => by
    simp only [Op.bytesLess, Bool.or_eq_false_iff, Bool.and_eq_false_iff, decide_eq_false_iff_not, beq_eq_false_iff_ne] at h k
    have hxy : x = y := by
      have h1 := h.1
      have k1 := k.1
      exact UInt8.le_antisymm (UInt8.not_lt.1 k1) (UInt8.not_lt.1 h1)
    subst hxy
    rw [bl_total a b (by rcases h.2 with h | h; exact absurd rfl h; exact h) (by rcases k.2 with h | h; exact absurd rfl h; exact h)]
instance (priority := 10000) beqS : BEq ByteArray := instBEqOfDecidableEq
def ltS (a b : ByteArray) : Bool := Op.bytesLess a.toList b.toList
theorem ordS : LinOrd ltS := ⟨fun a => bl_irrefl _, fun a b c h k => bl_trans _ _ _ h k, fun a b hne => by
  cases h : ltS a b
  · cases k : ltS b a
    · exfalso
      have e := bl_total _ _ h k
      rw [Lib.toList_data, Lib.toList_data] at e
      exact hne (WideShapes.bytes_inj e)
    · exact .inr rfl
  · exact .inl rfl⟩
theorem eqS {a b : ByteArray} : (a.toList == b.toList) = decide (a = b) := by
  by_cases h : a = b
  · subst h; simp
  · have : ¬ a.toList = b.toList := fun e => h (by rw [Lib.toList_data, Lib.toList_data] at e; exact WideShapes.bytes_inj e)
    simp [h, this]
end Go.Proofs.Yteojcdpmlhlfaaa
