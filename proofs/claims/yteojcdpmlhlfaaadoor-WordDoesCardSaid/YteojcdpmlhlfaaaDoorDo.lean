/- What (word.Op).Do computes, op by op, of any two numbers. -/
import Derived.Test.YteojcdpmlhlfaaaDoorProg
import Derived.WalkKit
import Derived.WalkLawsBesides
import Derived.WalkSpells
namespace Go.Proofs.YteojcdpmlhlfaaaDoor
open Go.RowKit

def sh (b : Int) : Nat := (b % 64).toNat

def doV (o a b : Int) : Int :=
  if o = 0 then wrap64 (a + b) else if o = 1 then wrap64 (a - b) else if o = 2 then wrap64 (a * b)
  else if o = 3 then (if b = 0 then 0 else wrap64 (a.tdiv b)) else if o = 4 then (if b = 0 then 0 else a.tmod b)
  else if o = 5 then bits .and .i64 a b else if o = 6 then bits .or .i64 a b else if o = 7 then bits .xor .i64 a b
  else if o = 8 then wrap64 (a * 2 ^ sh b) else if o = 9 then a / 2 ^ sh b
  else if o = 10 then (if a = b then 1 else 0) else if o = 11 then (if a < b then 1 else 0) else 0
def doK (o b : Int) : Bool := decide (o < 12) && !(decide (o = 3 ∨ o = 4) && decide (b = 0))

theorem and63_bv (b : Int) : (BitVec.ofInt 64 b &&& BitVec.ofInt 64 63).toNat = (b % 64).toNat := by
  have h : (BitVec.ofInt 64 63).toNat = 2 ^ 6 - 1 := by decide
  rw [BitVec.toNat_and, h, Nat.and_two_pow_sub_one_eq_mod, BitVec.toNat_ofInt]
  omega
theorem and63 (b : Int) : bits .and .i64 b 63 = b % 64 := by
  have h : (BitVec.ofInt 64 b &&& BitVec.ofInt 64 63).toNat = (b % 64).toNat := and63_bv b
  show IntKind.i64.wrap _ = _
  have h2 : ((BitVec.ofInt IntKind.i64.bits b &&& BitVec.ofInt IntKind.i64.bits 63).toNat : Int) = b % 64 := by
    rw [show IntKind.i64.bits = 64 from rfl, h]; omega
  rw [h2, IntKind.wrap_i64]; omega
theorem sh_of (b : Int) : min (IntKind.u64.wrap (bits .and .i64 b 63)).toNat 64 = sh b := by
  rw [and63]; unfold sh
  have : IntKind.u64.wrap (b % 64) = b % 64 := by simp [IntKind.wrap, IntKind.bits, IntKind.signed]; omega
  rw [this]; omega

theorem bit_any (b : Bool) (w : World) : Calls Tryd.prog 17 #[.bool b] w fun e w' => e = .returned (.int .i64 (if b then 1 else 0)) ∧ w = w' := by
  cases b <;> (go_enter Tryd.func17, Tryd.ntmps17; go_wp2; go_ret; exact ⟨rfl, rfl⟩)
theorem bit_if (p : Prop) [Decidable p] (w : World) : Calls Tryd.prog 17 #[.bool (decide p)] w fun e w' => e = .returned (.int .i64 (if p then 1 else 0)) ∧ w = w' :=
  (bit_any _ w).mono fun e w' ⟨h1, h2⟩ => ⟨by rw [h1]; simp, h2⟩

theorem two {a b : Int} {c d : Bool} (h : a = b) (h2 : c = d) : Ending.returned (.tuple #[.int .i64 a, .bool c]) = Ending.returned (.tuple #[.int .i64 b, .bool d]) := by rw [h, h2]

theorem do_0 (a b : Int) (w : World) : Calls Tryd.prog 9 #[.int .u8 0, .int .i64 a, .int .i64 b] w fun e w' => e = .returned (.tuple #[.int .i64 (wrap64 (a + b)), .bool true]) ∧ w = w' := by
  go_enter Tryd.func9, Tryd.ntmps9
  go_wp2
  go_ret2
  exact ⟨rfl, rfl⟩
theorem do_1 (a b : Int) (w : World) : Calls Tryd.prog 9 #[.int .u8 1, .int .i64 a, .int .i64 b] w fun e w' => e = .returned (.tuple #[.int .i64 (wrap64 (a - b)), .bool true]) ∧ w = w' := by
  go_enter Tryd.func9, Tryd.ntmps9
  go_wp2
  go_ret2
  exact ⟨rfl, rfl⟩
theorem do_2 (a b : Int) (w : World) : Calls Tryd.prog 9 #[.int .u8 2, .int .i64 a, .int .i64 b] w fun e w' => e = .returned (.tuple #[.int .i64 (wrap64 (a * b)), .bool true]) ∧ w = w' := by
  go_enter Tryd.func9, Tryd.ntmps9
  go_wp2
  go_ret2
  exact ⟨rfl, rfl⟩
theorem do_3 (a b : Int) (hb : (b == 0) = false) (hb2 : b ≠ 0) (w : World) : Calls Tryd.prog 9 #[.int .u8 3, .int .i64 a, .int .i64 b] w fun e w' => e = .returned (.tuple #[.int .i64 (wrap64 (a.tdiv b)), .bool true]) ∧ w = w' := by
  go_enter Tryd.func9, Tryd.ntmps9
  go_wp2
  go_ret2
  exact ⟨rfl, rfl⟩
theorem do_4 (a b : Int) (hb : (b == 0) = false) (hb2 : b ≠ 0) (w : World) : Calls Tryd.prog 9 #[.int .u8 4, .int .i64 a, .int .i64 b] w fun e w' => e = .returned (.tuple #[.int .i64 (a.tmod b), .bool true]) ∧ w = w' := by
  go_enter Tryd.func9, Tryd.ntmps9
  go_wp2
  go_ret2
  exact ⟨rfl, rfl⟩
theorem do_30 (a : Int) (w : World) : Calls Tryd.prog 9 #[.int .u8 3, .int .i64 a, .int .i64 0] w fun e w' => e = .returned (.tuple #[.int .i64 0, .bool false]) ∧ w = w' := by
  go_enter Tryd.func9, Tryd.ntmps9
  go_wp2
  go_ret2
  exact ⟨rfl, rfl⟩
theorem do_40 (a : Int) (w : World) : Calls Tryd.prog 9 #[.int .u8 4, .int .i64 a, .int .i64 0] w fun e w' => e = .returned (.tuple #[.int .i64 0, .bool false]) ∧ w = w' := by
  go_enter Tryd.func9, Tryd.ntmps9
  go_wp2
  go_ret2
  exact ⟨rfl, rfl⟩
theorem do_5 (a b : Int) (w : World) : Calls Tryd.prog 9 #[.int .u8 5, .int .i64 a, .int .i64 b] w fun e w' => e = .returned (.tuple #[.int .i64 (bits .and .i64 a b), .bool true]) ∧ w = w' := by
  go_enter Tryd.func9, Tryd.ntmps9
  go_wp2
  go_ret2
  exact ⟨rfl, rfl⟩
theorem do_6 (a b : Int) (w : World) : Calls Tryd.prog 9 #[.int .u8 6, .int .i64 a, .int .i64 b] w fun e w' => e = .returned (.tuple #[.int .i64 (bits .or .i64 a b), .bool true]) ∧ w = w' := by
  go_enter Tryd.func9, Tryd.ntmps9
  go_wp2
  go_ret2
  exact ⟨rfl, rfl⟩
theorem do_7 (a b : Int) (w : World) : Calls Tryd.prog 9 #[.int .u8 7, .int .i64 a, .int .i64 b] w fun e w' => e = .returned (.tuple #[.int .i64 (bits .xor .i64 a b), .bool true]) ∧ w = w' := by
  go_enter Tryd.func9, Tryd.ntmps9
  go_wp2
  go_ret2
  exact ⟨rfl, rfl⟩
theorem do_8 (a b : Int) (w : World) : Calls Tryd.prog 9 #[.int .u8 8, .int .i64 a, .int .i64 b] w fun e w' => e = .returned (.tuple #[.int .i64 (wrap64 (a * 2 ^ sh b)), .bool true]) ∧ w = w' := by
  go_enter Tryd.func9, Tryd.ntmps9
  go_wp2
  go_ret2
  exact ⟨by rw [← sh_of b]; rfl, rfl⟩
theorem do_9 (a b : Int) (w : World) : Calls Tryd.prog 9 #[.int .u8 9, .int .i64 a, .int .i64 b] w fun e w' => e = .returned (.tuple #[.int .i64 (a / 2 ^ sh b), .bool true]) ∧ w = w' := by
  go_enter Tryd.func9, Tryd.ntmps9
  go_wp2
  go_ret2
  exact ⟨by rw [← sh_of b]; rfl, rfl⟩
theorem do_10 (a b : Int) (w : World) : Calls Tryd.prog 9 #[.int .u8 10, .int .i64 a, .int .i64 b] w fun e w' => e = .returned (.tuple #[.int .i64 (if a = b then 1 else 0), .bool true]) ∧ w = w' := by
  by_cases h : a = b
  · subst h
    rw [if_pos rfl]
    go_enter Tryd.func9, Tryd.ntmps9
    go_wp2_with (go_at_call 17; refine (bit_any _ _).mono ?_; rintro e w' ⟨rfl, rfl⟩)
    go_ret2
    exact ⟨rfl, rfl⟩
  · rw [if_neg h]
    have hb : (a == b) = false := by simp [h]
    go_enter Tryd.func9, Tryd.ntmps9
    go_wp2_with (go_at_call 17; refine (bit_any _ _).mono ?_; rintro e w' ⟨rfl, rfl⟩)
    go_ret2
    exact ⟨rfl, rfl⟩
theorem do_11 (a b : Int) (w : World) : Calls Tryd.prog 9 #[.int .u8 11, .int .i64 a, .int .i64 b] w fun e w' => e = .returned (.tuple #[.int .i64 (if a < b then 1 else 0), .bool true]) ∧ w = w' := by
  by_cases h : a < b
  · rw [if_pos h]
    go_enter Tryd.func9, Tryd.ntmps9
    go_wp2_with (go_at_call 17; refine (bit_any _ _).mono ?_; rintro e w' ⟨rfl, rfl⟩)
    go_ret2
    exact ⟨rfl, rfl⟩
  · rw [if_neg h]
    go_enter Tryd.func9, Tryd.ntmps9
    go_wp2_with (go_at_call 17; refine (bit_any _ _).mono ?_; rintro e w' ⟨rfl, rfl⟩)
    go_ret2
    exact ⟨rfl, rfl⟩
theorem do_z (o a b : Int) (h0 : 12 ≤ o) (w : World) : Calls Tryd.prog 9 #[.int .u8 o, .int .i64 a, .int .i64 b] w fun e w' => e = .returned (.tuple #[.int .i64 0, .bool false]) ∧ w = w' := by
  go_enter Tryd.func9, Tryd.ntmps9
  go_wp2
  go_ret2
  exact ⟨rfl, rfl⟩

theorem do_any (o a b : Int) (w : World) (h0 : 0 ≤ o) : Calls Tryd.prog 9 #[.int .u8 o, .int .i64 a, .int .i64 b] w fun e w' => e = .returned (.tuple #[.int .i64 (doV o a b), .bool (doK o b)]) ∧ w = w' := by
  have key : ∀ v k, doV o a b = v → doK o b = k → (Calls Tryd.prog 9 #[.int .u8 o, .int .i64 a, .int .i64 b] w fun e w' => e = .returned (.tuple #[.int .i64 v, .bool k]) ∧ w = w') →
      (Calls Tryd.prog 9 #[.int .u8 o, .int .i64 a, .int .i64 b] w fun e w' => e = .returned (.tuple #[.int .i64 (doV o a b), .bool (doK o b)]) ∧ w = w') := by
    intro v k h1 h2 h; rw [h1, h2]; exact h
  by_cases hz : 12 ≤ o
  · refine key 0 false ?_ ?_ (do_z o a b hz w)
    · unfold doV; repeat (rw [if_neg (by omega)])
    · unfold doK; simp; omega
  · have : o = 0 ∨ o = 1 ∨ o = 2 ∨ o = 3 ∨ o = 4 ∨ o = 5 ∨ o = 6 ∨ o = 7 ∨ o = 8 ∨ o = 9 ∨ o = 10 ∨ o = 11 := by omega
    rcases this with rfl | rfl | rfl | rfl | rfl | rfl | rfl | rfl | rfl | rfl | rfl | rfl
    · exact key _ _ rfl rfl (do_0 a b w)
    · exact key _ _ rfl rfl (do_1 a b w)
    · exact key _ _ rfl rfl (do_2 a b w)
    · by_cases hb : b = 0
      · subst hb; exact key _ _ rfl rfl (do_30 a w)
      · exact key _ _ (by simp [doV, hb]) (by simp [doK, hb]) (do_3 a b (by simp [hb]) hb w)
    · by_cases hb : b = 0
      · subst hb; exact key _ _ rfl rfl (do_40 a w)
      · exact key _ _ (by simp [doV, hb]) (by simp [doK, hb]) (do_4 a b (by simp [hb]) hb w)
    · exact key _ _ rfl rfl (do_5 a b w)
    · exact key _ _ rfl rfl (do_6 a b w)
    · exact key _ _ rfl rfl (do_7 a b w)
    · exact key _ _ rfl rfl (do_8 a b w)
    · exact key _ _ rfl rfl (do_9 a b w)
    · exact key _ _ rfl rfl (do_10 a b w)
    · exact key _ _ rfl rfl (do_11 a b w)
end Go.Proofs.YteojcdpmlhlfaaaDoor
