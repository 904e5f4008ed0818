/- What refinerylaw01.WordShifts' walk comes to: places up and down. Condition: the table's last cell holds "lt". -/
import Derived.Test.YteojcdpmlhlfaaaDoorAwake
import Derived.Lib.Hide
namespace Go.Proofs.YteojcdpmlhlfaaaDoor
open Go.RowKit

theorem fn11 (o a b v : Int) (w : World) (h0 : 0 ≤ o) (hv : doV o a b = v) : Calls Tryd.prog 11 #[.int .u8 o, .int .i64 a, .int .i64 b] w fun e w' => e = .returned (.int .i64 v) ∧ w = w' := by
  subst hv
  go_enter Tryd.func11, Tryd.ntmps11
  go_wp2_with (go_at_call 9; refine (do_any _ _ _ _ h0).mono ?_; rintro e w' ⟨rfl, rfl⟩)
  go_ret
  exact ⟨rfl, rfl⟩
theorem sh_nat (n : Nat) (h : n < 64) : sh (n : Int) = n := by unfold sh; omega
theorem sh_up (n : Nat) (h : n < 64) : sh ((n : Int) + 64) = n := by unfold sh; omega
theorem sh_down (n : Nat) (h : n < 64) : sh ((n : Int) - 64) = n := by unfold sh; omega
theorem sh_mod (b : Int) : sh (b % 64) = sh b := by unfold sh; omega
theorem v8 (a b : Int) : doV 8 a b = wrap64 (a * 2 ^ sh b) := rfl
theorem v9 (a b : Int) : doV 9 a b = a / 2 ^ sh b := rfl
theorem v5 (b : Int) : doV 5 b 63 = b % 64 := and63 b
theorem up_succ (a : Int) (i : Nat) : wrap64 (wrap64 (a * 2 ^ i) * 2) = wrap64 (a * 2 ^ (i + 1)) := by
  have : a * 2 ^ (i + 1) = a * 2 ^ i * 2 := by rw [Int.pow_succ, Int.mul_assoc]
  rw [this]
  generalize a * 2 ^ i = x
  unfold wrap64
  omega
theorem down_succ (a : Int) (i : Nat) : a / 2 ^ i / 2 = a / 2 ^ (i + 1) := by
  rw [Int.pow_succ, ← Int.ediv_ediv_of_nonneg]
  exact Int.pow_nonneg (by omega)

theorem wrap64_id {a : Int} (h0 : -9223372036854775808 ≤ a) (h1 : a ≤ 9223372036854775807) : wrap64 a = a := by unfold wrap64; omega
set_option maxHeartbeats 400000 in
theorem shifts (a b k : Int) (ha0 : -9223372036854775808 ≤ a) (ha1 : a ≤ 9223372036854775807) (hk0 : 0 ≤ k) (hk1 : k ≤ 255) (w : World) (h : w.cell? ⟨0, 11, none⟩ = some (.string ⟨#[108, 116]⟩)) : Calls Tryd.prog 4 #[.int .i64 a, .int .i64 b, .int .u8 k] w fun e w' => e = .returned (.bool true) ∧ w = w' := by
  obtain ⟨n, hn⟩ : ∃ n : Nat, k % 64 = (n : Int) := ⟨(k % 64).toNat, by omega⟩
  have hlt : n < 64 := by omega
  have hlt' : (n : Int) < 64 := by omega

  go_enter Tryd.func4, Tryd.ntmps4
  go_wp2_with (first
   | (go_at_call 8; refine (awake _ h).mono ?_; rintro e w' ⟨rfl, rfl⟩))
  clear hn
  go_loop [9, 10, 19] (fun u d i => ∃ j : Nat, j ≤ n ∧ i = .int .i64 j ∧ u = .int .i64 (wrap64 (a * 2 ^ j)) ∧ d = .int .i64 (a / 2 ^ j)) (fun _ _ i => n - (intOf i).toNat)
  case atStart => exact ⟨0, Nat.zero_le _, rfl, by simp [wrap64_id ha0 ha1], by simp⟩
  case round =>
    obtain ⟨j, hj, rfl, rfl, rfl⟩ := hrel
    have hj' : (j : Int) ≤ n := by omega
    by_cases hlt2 : j < n
    · go_wp2
      go_round
      case rel => exact ⟨j + 1, by omega, by go_num, by rw [← up_succ], by rw [← down_succ]⟩
      case measure => simp [intOf]; omega
    · obtain rfl : n = j := by omega
      go_wp2_with fail
      refine (fn11 _ _ _ _ _ (by decide) (v8 a n)).mono ?_; rintro e w' ⟨rfl, rfl⟩
      rw [sh_nat n hlt]
      go_wp2_with fail
      refine (fn11 _ _ _ _ _ (by decide) (v9 a n)).mono ?_; rintro e w' ⟨rfl, rfl⟩
      rw [sh_nat n hlt]
      go_wp2_with fail
      refine (fn11 _ _ _ _ _ (by decide) (v8 a (n + 64))).mono ?_; rintro e w' ⟨rfl, rfl⟩
      rw [sh_up n hlt]
      go_wp2_with fail
      refine (fn11 _ _ _ _ _ (by decide) (v9 a (n - 64))).mono ?_; rintro e w' ⟨rfl, rfl⟩
      rw [sh_down n hlt]
      go_wp2_with fail
      refine (fn11 _ _ _ _ _ (by decide) (v8 a b)).mono ?_; rintro e w' ⟨rfl, rfl⟩
      go_wp2_with fail
      refine (fn11 _ _ _ _ _ (by decide) (v5 b)).mono ?_; rintro e w' ⟨rfl, rfl⟩
      go_wp2_with fail
      refine (fn11 _ _ _ _ _ (by decide) (v8 a (b % 64))).mono ?_; rintro e w' ⟨rfl, rfl⟩
      rw [sh_mod b]
      go_wp2
      go_ret
      exact ⟨rfl, rfl⟩
end Go.Proofs.YteojcdpmlhlfaaaDoor
