/- Plain facts on the document's answer for two numbers of 64 bits, bit by bit. No condition but the numbers' range where it is named. -/
import Derived.Test.YteojcdpmlhlfaaaDoorPlain
namespace Go.Proofs.YteojcdpmlhlfaaaDoor
open Go.RowKit

/-- The bit of a number at a place. -/
def ib (a : Int) (i : Nat) : Int := a / 2 ^ i % 2
/-- What the first d bits come to. -/
def inum (z : Nat → Int) : Nat → Int
  | 0 => 0
  | d + 1 => inum z d + z d * 2 ^ d
theorem pow_pos' (i : Nat) : (0 : Int) < 2 ^ i := Int.pow_pos (by omega)
theorem ib_two (a : Int) (i : Nat) : ib a i = 0 ∨ ib a i = 1 := by unfold ib; omega
theorem pow_succ' (i : Nat) : (2 : Int) ^ (i + 1) = 2 ^ i * 2 := Int.pow_succ _ _
theorem ediv_pow_succ (a : Int) (i : Nat) : a / 2 ^ (i + 1) = a / 2 ^ i / 2 := by
  rw [pow_succ', Int.ediv_ediv_of_nonneg (Int.le_of_lt (pow_pos' i))]
theorem emod_pow_succ (a : Int) (d : Nat) : a % 2 ^ (d + 1) = a % 2 ^ d + ib a d * 2 ^ d := by
  unfold ib
  have h1 := Int.mul_ediv_add_emod a (2 ^ d)
  have h2 := Int.mul_ediv_add_emod a (2 ^ (d + 1))
  have h3 := Int.mul_ediv_add_emod (a / 2 ^ d) 2
  rw [ediv_pow_succ, pow_succ'] at h2
  rw [pow_succ']
  generalize a / 2 ^ d / 2 = q at *
  generalize a / 2 ^ d % 2 = r at *
  generalize a / 2 ^ d = t at *
  subst h3
  rw [Int.mul_add] at h1
  have e1 : 2 ^ d * (2 * q) = 2 ^ d * 2 * q := by rw [Int.mul_assoc]
  have e2 : 2 ^ d * r = r * 2 ^ d := Int.mul_comm _ _
  omega
theorem inum_ib (a : Int) : ∀ d, inum (ib a) d = a % 2 ^ d
  | 0 => by simp [inum, Int.emod_one]
  | d + 1 => by rw [inum, inum_ib a d, emod_pow_succ]
theorem inum_congr {f g : Nat → Int} : ∀ d, (∀ i, i < d → f i = g i) → inum f d = inum g d
  | 0, _ => rfl
  | d + 1, h => by rw [inum, inum, inum_congr d (fun i hi => h i (by omega)), h d (by omega)]
theorem inum_lo {f : Nat → Int} : ∀ d, (∀ i, i < d → f i = 0 ∨ f i = 1) → 0 ≤ inum f d ∧ inum f d < 2 ^ d
  | 0, _ => by simp [inum]
  | d + 1, h => by
    have ih := inum_lo d (fun i hi => h i (by omega))
    rw [inum, pow_succ']
    rcases h d (by omega) with e | e <;> rw [e] <;> omega
/-- Two numbers of 64 bits with the same bits. -/
theorem ib_mod (a : Int) (i : Nat) (hi : i < 64) : ib (a % 2 ^ 64) i = ib a i := by
  unfold ib
  have e : (2 : Int) ^ 64 = 2 ^ i * (2 * 2 ^ (63 - i)) := by
    rw [← Int.mul_assoc, ← pow_succ', ← Int.pow_add]
    congr 1; omega
  have h1 := Int.mul_ediv_add_emod a (2 ^ 64)
  generalize hk : a / 2 ^ 64 = k at h1
  have h2 : a = a % 2 ^ 64 + 2 ^ i * (2 * (2 ^ (63 - i) * k)) := by
    rw [← Int.mul_assoc 2, ← Int.mul_assoc (2 ^ i), ← e]; omega
  have h3 : a / 2 ^ i = a % 2 ^ 64 / 2 ^ i + 2 * (2 ^ (63 - i) * k) := by
    conv => lhs; rw [h2]
    rw [Int.add_mul_ediv_left _ _ (Int.ne_of_gt (pow_pos' i))]
  rw [h3]
  omega
theorem wrap64_mod (a : Int) : wrap64 a = wrap64 (a % 2 ^ 64) := by unfold wrap64; omega
theorem ib_wrap (a : Int) (i : Nat) (hi : i < 64) : ib (wrap64 a) i = ib a i := by
  rw [← ib_mod (wrap64 a) i hi, ← ib_mod a i hi]
  congr 1
  unfold wrap64; omega
/-- What 64 bits come to, told by the number that has them. -/
theorem number_ib (f : Nat → Int) (a : Int) (h : ∀ i, i < 64 → f i = ib a i) : wrap64 (inum f 64) = wrap64 a := by
  rw [inum_congr 64 h, inum_ib, ← wrap64_mod]
/-- Sums, bit by bit. -/
theorem carry_step (x d c : Int) : x + d + c = (x + d + c) % 2 + (x + d + c) / 2 * 2 := by omega
theorem carry_next {C k z : Int} (f g : Nat → Int) (i : Nat) (h : z + k * 2 ^ i = inum f i + inum g i + C) :
    z + (f i + g i + k) % 2 * 2 ^ i + (f i + g i + k) / 2 * 2 ^ (i + 1) = inum f (i + 1) + inum g (i + 1) + C := by
  rw [inum, inum, pow_succ']
  have h1 := carry_step (f i) (g i) k
  generalize (f i + g i + k) % 2 = r at *
  generalize (f i + g i + k) / 2 = q at *
  have h2 : r * 2 ^ i + q * (2 ^ i * 2) = (f i + g i + k) * 2 ^ i := by
    rw [h1, Int.add_mul]
    have : q * (2 ^ i * 2) = q * 2 * 2 ^ i := by rw [Int.mul_comm (2 ^ i) 2, Int.mul_assoc]
    rw [this]
  rw [Int.add_mul, Int.add_mul] at h2
  omega
/-- Less one, of each bit. -/
theorem inum_not (f : Nat → Int) : ∀ d, inum (fun i => 1 - f i) d = 2 ^ d - 1 - inum f d
  | 0 => by simp [inum]
  | d + 1 => by
    rw [inum, inum, inum_not f d, pow_succ', Int.sub_mul, Int.one_mul]
    omega
theorem add_end {z k a b : Int} (h : z + k * 2 ^ 64 = inum (ib a) 64 + inum (ib b) 64 + 0) : wrap64 z = wrap64 (a + b) := by
  rw [inum_ib, inum_ib] at h
  unfold wrap64; omega
theorem sub_end {z k a b : Int} (h : z + k * 2 ^ 64 = inum (ib a) 64 + inum (fun i => 1 - ib b i) 64 + 1) : wrap64 z = wrap64 (a - b) := by
  rw [inum_not, inum_ib, inum_ib] at h
  unfold wrap64; omega
/-- A product, bit by bit. -/
theorem mul_next (a b : Int) (i : Nat) : a * (b % 2 ^ (i + 1)) = a * (b % 2 ^ i) + ib b i * (a * 2 ^ i) := by
  rw [emod_pow_succ, Int.mul_add]
  congr 1
  rw [← Int.mul_assoc, Int.mul_comm a, Int.mul_assoc]
theorem mul_end (a b : Int) : wrap64 (a * (b % 2 ^ 64)) = wrap64 (a * b) := by
  have h1 := Int.mul_ediv_add_emod b (2 ^ 64)
  have h2 : a * b = a * (b % 2 ^ 64) + 2 ^ 64 * (a * (b / 2 ^ 64)) := by
    conv => lhs; rw [← h1]
    rw [Int.mul_add, ← Int.mul_assoc a, Int.mul_comm a (2 ^ 64), Int.mul_assoc]
    omega
  rw [h2]
  generalize a * (b % 2 ^ 64) = x
  generalize a * (b / 2 ^ 64) = y
  unfold wrap64; omega
/-- Bits of two numbers together. -/
theorem ib_bv (x : BitVec 64) (i : Nat) (hi : i < 64) : ib x.toInt i = if x.getLsbD i then 1 else 0 := by
  have h1 : x.toInt % 2 ^ 64 = (x.toNat : Int) := by
    rw [BitVec.toInt_eq_toNat_bmod, Int.bmod_def]
    have := x.isLt
    omega
  rw [← ib_mod _ i hi, h1]
  unfold ib
  have e : x.getLsbD i = x.toNat.testBit i := rfl
  rw [e, Nat.testBit_eq_decide_div_mod_eq]
  have e2 : ((x.toNat : Int) / 2 ^ i % 2) = ((x.toNat / 2 ^ i % 2 : Nat) : Int) := by
    rw [Int.natCast_emod, Int.natCast_ediv, Int.natCast_pow]; rfl
  rw [e2]
  rcases Nat.mod_two_eq_zero_or_one (x.toNat / 2 ^ i) with h | h <;> rw [h] <;> simp
theorem ib_ofInt (a : Int) (i : Nat) (hi : i < 64) : ib a i = if (BitVec.ofInt 64 a).getLsbD i then 1 else 0 := by
  rw [← ib_bv _ i hi, ← wrap64_bv, ib_wrap a i hi]
theorem ib_and (a b : Int) (i : Nat) (hi : i < 64) : ib (bits .and .i64 a b) i = (ib a i + ib b i) / 2 := by
  rw [and_bv, ib_bv _ i hi, ib_ofInt a i hi, ib_ofInt b i hi, BitVec.getLsbD_and]
  cases (BitVec.ofInt 64 a).getLsbD i <;> cases (BitVec.ofInt 64 b).getLsbD i <;> decide
theorem ib_xor (a b : Int) (i : Nat) (hi : i < 64) : ib (bits .xor .i64 a b) i = (ib a i + ib b i) % 2 := by
  rw [xor_bv, ib_bv _ i hi, ib_ofInt a i hi, ib_ofInt b i hi, BitVec.getLsbD_xor]
  cases (BitVec.ofInt 64 a).getLsbD i <;> cases (BitVec.ofInt 64 b).getLsbD i <;> decide
theorem ib_or (a b : Int) (i : Nat) (hi : i < 64) : ib (bits .or .i64 a b) i = if 0 < ib a i + ib b i then 1 else 0 := by
  rw [or_bv, ib_bv _ i hi, ib_ofInt a i hi, ib_ofInt b i hi, BitVec.getLsbD_or]
  cases (BitVec.ofInt 64 a).getLsbD i <;> cases (BitVec.ofInt 64 b).getLsbD i <;> decide
theorem bits_range (op : BinOp) (a b : Int) : wrap64 (bits op .i64 a b) = bits op .i64 a b := by
  show wrap64 (IntKind.i64.wrap _) = IntKind.i64.wrap _
  rw [IntKind.wrap_i64]
  unfold wrap64; omega
/-- Places up and down. -/
theorem ib_up (a : Int) (k i : Nat) : ib (a * 2 ^ k) i = if k ≤ i then ib a (i - k) else 0 := by
  unfold ib
  by_cases h : k ≤ i
  · rw [if_pos h]
    have e : (2 : Int) ^ i = 2 ^ k * 2 ^ (i - k) := by rw [← Int.pow_add]; congr 1; omega
    rw [e, ← Int.ediv_ediv_of_nonneg (Int.le_of_lt (pow_pos' k)), Int.mul_ediv_cancel _ (Int.ne_of_gt (pow_pos' k))]
  · rw [if_neg h]
    have e : (2 : Int) ^ k = 2 ^ i * (2 * 2 ^ (k - i - 1)) := by
      rw [← Int.mul_assoc, ← pow_succ', ← Int.pow_add]; congr 1; omega
    rw [e, Int.mul_comm a, Int.mul_assoc, Int.mul_ediv_cancel_left _ (Int.ne_of_gt (pow_pos' i)), Int.mul_assoc]
    omega
theorem ib_down (a : Int) (k i : Nat) : ib (a / 2 ^ k) i = ib a (i + k) := by
  unfold ib
  rw [Int.ediv_ediv_of_nonneg (Int.le_of_lt (pow_pos' k)), ← Int.pow_add, Nat.add_comm]
theorem ib_sign {a : Int} (h0 : -9223372036854775808 ≤ a) (h1 : a ≤ 9223372036854775807) (j : Nat) (hj : 63 ≤ j) : ib a j = ib a 63 := by
  obtain ⟨d, rfl⟩ : ∃ d, j = 63 + d := ⟨j - 63, by omega⟩
  unfold ib
  rw [Int.pow_add, ← Int.ediv_ediv_of_nonneg (Int.le_of_lt (pow_pos' 63))]
  have hz : a / 2 ^ 63 = 0 ∨ a / 2 ^ 63 = -1 := by omega
  rcases hz with e | e <;> rw [e]
  · simp
  · have : (-1 : Int) / 2 ^ d = -1 := by
      have hp := pow_pos' d
      rw [Int.ediv_eq_iff_of_pos hp]
      omega
    rw [this]
theorem div_range {a : Int} (h0 : -9223372036854775808 ≤ a) (h1 : a ≤ 9223372036854775807) (k : Nat) : wrap64 (a / 2 ^ k) = a / 2 ^ k := by
  have hp := pow_pos' k
  have h2 : a / 2 ^ k ≤ 9223372036854775807 := by
    by_cases hn : 0 ≤ a
    · exact Int.le_trans (Int.ediv_le_self _ hn) h1
    · have := Int.ediv_neg_of_neg_of_pos (by omega : a < 0) hp; omega
  have h3 : -9223372036854775808 ≤ a / 2 ^ k := by
    rw [Int.le_ediv_iff_mul_le hp]
    have : (1 : Int) ≤ 2 ^ k := hp
    have : (-9223372036854775808 : Int) * 2 ^ k ≤ -9223372036854775808 * 1 := Int.mul_le_mul_of_nonpos_left (by omega) this
    omega
  unfold wrap64; omega
/-- How far: the last six bits. -/
theorem six (b : Int) : ib b 5 * 32 + ib b 4 * 16 + ib b 3 * 8 + ib b 2 * 4 + ib b 1 * 2 + ib b 0 = b % 64 := by
  unfold ib; omega
end Go.Proofs.YteojcdpmlhlfaaaDoor
