/- Plain facts on two numbers of 64 bits: which ops may be turned; quotients and what is left; bits. No condition but the numbers' range where it is named. -/
import Derived.Test.YteojcdpmlhlfaaaDoorAwake
namespace Go.Proofs.YteojcdpmlhlfaaaDoor
open Go.RowKit

theorem wrap64_bv (z : Int) : wrap64 z = (BitVec.ofInt 64 z).toInt := by
  unfold wrap64; rw [BitVec.toInt_ofInt, Int.bmod_def]; omega
theorem wrap_nat (x : BitVec 64) : IntKind.i64.wrap x.toNat = x.toInt := by
  rw [IntKind.wrap_i64, BitVec.toInt_eq_toNat_bmod, Int.bmod_def]; have := x.isLt; omega
theorem and_bv (a b : Int) : bits .and .i64 a b = (BitVec.ofInt 64 a &&& BitVec.ofInt 64 b).toInt := wrap_nat _
theorem or_bv (a b : Int) : bits .or .i64 a b = (BitVec.ofInt 64 a ||| BitVec.ofInt 64 b).toInt := wrap_nat _
theorem xor_bv (a b : Int) : bits .xor .i64 a b = (BitVec.ofInt 64 a ^^^ BitVec.ofInt 64 b).toInt := wrap_nat _
theorem nat_and_or : ∀ (n x y : Nat), x < 2 ^ n → y < 2 ^ n → (x &&& y) + (x ||| y) = x + y
  | 0, x, y, hx, hy => by
    obtain rfl : x = 0 := by simpa using hx
    obtain rfl : y = 0 := by simpa using hy
    rfl
  | n + 1, x, y, hx, hy => by
    have ih := nat_and_or n (x / 2) (y / 2) (by rw [Nat.pow_succ] at hx; omega) (by rw [Nat.pow_succ] at hy; omega)
    have h1 : (x &&& y) / 2 = x / 2 &&& y / 2 := Nat.and_div_two
    have h2 : (x ||| y) / 2 = x / 2 ||| y / 2 := Nat.or_div_two
    have h3 : (x &&& y) % 2 = x % 2 &&& y % 2 := Nat.and_mod_two_pow (n := 1)
    have h4 : (x ||| y) % 2 = x % 2 ||| y % 2 := Nat.or_mod_two_pow (n := 1)
    have h5 : (x % 2 &&& y % 2) + (x % 2 ||| y % 2) = x % 2 + y % 2 := by
      rcases Nat.mod_two_eq_zero_or_one x with e | e <;> rcases Nat.mod_two_eq_zero_or_one y with f | f <;> rw [e, f] <;> decide
    omega
theorem bv_and_or (x y : BitVec 64) : (x &&& y) + (x ||| y) = x + y := by
  apply BitVec.eq_of_toNat_eq
  rw [BitVec.toNat_add, BitVec.toNat_add, BitVec.toNat_and, BitVec.toNat_or, nat_and_or 64 _ _ x.isLt y.isLt]

theorem ofInt_id {a : Int} (h0 : -9223372036854775808 ≤ a) (h1 : a ≤ 9223372036854775807) : (BitVec.ofInt 64 a).toInt = a := by
  rw [← wrap64_bv]; unfold wrap64; omega
theorem sum_bits (a b : Int) : wrap64 (bits .and .i64 a b + bits .or .i64 a b) = wrap64 (a + b) := by
  rw [and_bv, or_bv, wrap64_bv, wrap64_bv, BitVec.ofInt_add, BitVec.ofInt_toInt, BitVec.ofInt_toInt, bv_and_or, BitVec.ofInt_add]
theorem xor_twice (a b : Int) (h0 : -9223372036854775808 ≤ a) (h1 : a ≤ 9223372036854775807) : bits .xor .i64 (bits .xor .i64 a b) b = a := by
  rw [xor_bv, xor_bv, BitVec.ofInt_toInt, BitVec.xor_assoc, BitVec.xor_self, BitVec.xor_zero, ofInt_id h0 h1]
theorem add_sub (a b : Int) (h0 : -9223372036854775808 ≤ a) (h1 : a ≤ 9223372036854775807) : wrap64 (wrap64 (a + b) - b) = a := by unfold wrap64; omega
theorem wrap_mul (x b : Int) : wrap64 (wrap64 x * b) = wrap64 (x * b) := by
  rw [wrap64_bv, wrap64_bv, wrap64_bv, BitVec.ofInt_mul, BitVec.ofInt_toInt, BitVec.ofInt_mul]
theorem quo_rem (a b : Int) (h0 : -9223372036854775808 ≤ a) (h1 : a ≤ 9223372036854775807) : wrap64 (wrap64 (wrap64 (a.tdiv b) * b) + a.tmod b) = a := by
  rw [wrap_mul]
  have h := Int.tdiv_mul_add_tmod a b
  generalize a.tdiv b * b = x at *
  generalize a.tmod b = y at *
  unfold wrap64; omega
def turnB (o : Int) : Bool := decide (o = 0 ∨ o = 2 ∨ o = 5 ∨ o = 6 ∨ o = 7 ∨ o = 10)
theorem turn_eq (o a b : Int) (h : turnB o = true) : doV o b a = doV o a b := by
  have : o = 0 ∨ o = 2 ∨ o = 5 ∨ o = 6 ∨ o = 7 ∨ o = 10 := by simpa [turnB] using h
  rcases this with rfl | rfl | rfl | rfl | rfl | rfl
  · show wrap64 (b + a) = wrap64 (a + b); rw [Int.add_comm]
  · show wrap64 (b * a) = wrap64 (a * b); rw [Int.mul_comm]
  · show bits .and .i64 b a = bits .and .i64 a b; rw [and_bv, and_bv, BitVec.and_comm]
  · show bits .or .i64 b a = bits .or .i64 a b; rw [or_bv, or_bv, BitVec.or_comm]
  · show bits .xor .i64 b a = bits .xor .i64 a b; rw [xor_bv, xor_bv, BitVec.xor_comm]
  · show (if b = a then (1 : Int) else 0) = if a = b then 1 else 0
    by_cases e : a = b
    · rw [if_pos e, if_pos e.symm]
    · rw [if_neg e, if_neg (fun h => e h.symm)]

/-- What the closure of WordLaws answers. -/
theorem fn12 (o a b v : Int) (w : World) (h0 : 0 ≤ o) (hv : doV o a b = v) : Calls Tryd.prog 12 #[.int .u8 o, .int .i64 a, .int .i64 b] w fun e w' => e = .returned (.int .i64 v) ∧ w = w' := by
  subst hv
  go_enter Tryd.func12, Tryd.ntmps12
  go_wp2_with (go_at_call 9; refine (do_any _ _ _ _ h0).mono ?_; rintro e w' ⟨rfl, rfl⟩)
  go_ret
  exact ⟨rfl, rfl⟩
theorem turns_yes (o : Int) (w : World) (h : turnB o = true) : Calls Tryd.prog 13 #[.int .u8 o] w fun e w' => e = .returned (.bool true) ∧ w = w' := by
  have : o = 0 ∨ o = 2 ∨ o = 5 ∨ o = 6 ∨ o = 7 ∨ o = 10 := by simpa [turnB] using h
  clear h
  rcases this with rfl | rfl | rfl | rfl | rfl | rfl <;> (go_enter Tryd.func13, Tryd.ntmps13; go_wp2; go_ret; exact ⟨rfl, rfl⟩)
theorem turns_no (o : Int) (w : World) (h : turnB o = false) : Calls Tryd.prog 13 #[.int .u8 o] w fun e w' => e = .returned (.bool false) ∧ w = w' := by
  have h' : ¬ (o = 0 ∨ o = 2 ∨ o = 5 ∨ o = 6 ∨ o = 7 ∨ o = 10) := by simpa [turnB] using h
  clear h
  have a0 : (o == 0) = false := by simp; omega
  have a2 : (o == 2) = false := by simp; omega
  have a5 : (o == 5) = false := by simp; omega
  have a6 : (o == 6) = false := by simp; omega
  have a7 : (o == 7) = false := by simp; omega
  have a10 : (o == 10) = false := by simp; omega
  clear h'
  go_enter Tryd.func13, Tryd.ntmps13
  go_wp2
  go_ret
  exact ⟨rfl, rfl⟩
end Go.Proofs.YteojcdpmlhlfaaaDoor
