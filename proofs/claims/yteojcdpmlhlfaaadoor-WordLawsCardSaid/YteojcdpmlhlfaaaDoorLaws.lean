/- What refinerylaw01.WordLaws' walk comes to. Condition: the table's last cell holds "lt"; the numbers are of 64 bits. -/
import Derived.Test.YteojcdpmlhlfaaaDoorPlain
import Derived.Lib.Hide
namespace Go.Proofs.YteojcdpmlhlfaaaDoor
open Go.RowKit

theorem laws_behind (a b : Int) (hb : (b == 0) = false) (h0 : -9223372036854775808 ≤ a) (h1 : a ≤ 9223372036854775807) : doV 0 (doV 2 (doV 3 a b) b) (doV 4 a b) = a := by
  have hb' : b ≠ 0 := by simpa using hb
  simp only [doV]
  simp only [if_neg hb']
  exact quo_rem a b h0 h1
theorem shl_mod (a b : Int) : doV 8 a (bits .and .i64 b 63) = doV 8 a b := by
  rw [and63]; show wrap64 (a * 2 ^ sh (b % 64)) = wrap64 (a * 2 ^ sh b); rw [show sh (b % 64) = sh b by unfold sh; omega]
theorem as1 (a b : Int) (h0 : -9223372036854775808 ≤ a) (h1 : a ≤ 9223372036854775807) : doV 1 (doV 0 a b) b = a := add_sub a b h0 h1
theorem xt1 (a b : Int) (h0 : -9223372036854775808 ≤ a) (h1 : a ≤ 9223372036854775807) : doV 7 (doV 7 a b) b = a := xor_twice a b h0 h1
theorem sb1 (a b : Int) : doV 0 (doV 5 a b) (doV 6 a b) = doV 0 a b := sum_bits a b
theorem tri (a b : Int) : (a < b ∧ ¬ b < a ∧ ¬ a = b) ∨ (¬ a < b ∧ b < a ∧ ¬ a = b) ∨ (¬ a < b ∧ ¬ b < a ∧ a = b) := by omega
theorem lt1 {a b : Int} (h : a < b) : doV 11 a b = 1 := if_pos h
theorem lt0 {a b : Int} (h : ¬ a < b) : doV 11 a b = 0 := if_neg h
theorem eq1 {a b : Int} (h : a = b) : doV 10 a b = 1 := if_pos h
theorem eq0 {a b : Int} (h : ¬ a = b) : doV 10 a b = 0 := if_neg h
set_option maxHeartbeats 4000000 in
theorem laws (a b : Int) (ha0 : -9223372036854775808 ≤ a) (ha1 : a ≤ 9223372036854775807) (w : World) (h : w.cell? ⟨0, 11, none⟩ = some (.string ⟨#[108, 116]⟩)) : Calls Tryd.prog 6 #[.int .i64 a, .int .i64 b] w fun e w' => e = .returned (.bool true) ∧ w = w' := by
  go_enter Tryd.func6, Tryd.ntmps6
  go_wp2_with (first
   | (go_at_call 8; refine (awake _ h).mono ?_; rintro e w' ⟨rfl, rfl⟩))
  go_loop [6, 16] (fun _ o => ∃ j : Nat, j ≤ 12 ∧ o = .int .u8 j) (fun _ i => 12 - (intOf i).toNat)
  case atStart => exact ⟨0, by omega, rfl⟩
  case round =>
    obtain ⟨j, hj, rfl⟩ := hrel
    by_cases hlt2 : j < 12
    · cases ht : turnB (j : Int)
      · have HT := Lib.hid ht; clear ht
        go_wp2_with fail
        refine (turns_no _ _ HT.out).mono ?_; rintro e w' ⟨rfl, rfl⟩
        go_wp2
        go_round
        case rel => exact ⟨j + 1, by omega, by go_num⟩
        case measure => simp [intOf]; omega
      · have HT := Lib.hid ht; clear ht
        go_wp2_with fail
        refine (turns_yes _ _ HT.out).mono ?_; rintro e w' ⟨rfl, rfl⟩
        go_wp2_with fail
        refine (fn12 _ _ _ _ _ (by omega) rfl).mono ?_; rintro e w' ⟨rfl, rfl⟩
        go_wp2_with fail
        refine (fn12 _ _ _ _ _ (by omega) (turn_eq _ _ _ HT.out)).mono ?_; rintro e w' ⟨rfl, rfl⟩
        go_wp2
        go_round
        case rel => exact ⟨j + 1, by omega, by go_num⟩
        case measure => simp [intOf]; omega
    · obtain rfl : j = 12 := by omega
      have H3 : ∃ l m s : Int, doV 11 a b = l ∧ doV 11 b a = m ∧ doV 10 a b = s ∧ (0 ≤ l ∧ l ≤ 1 ∧ 0 ≤ m ∧ m ≤ 1 ∧ 0 ≤ s ∧ s ≤ 1 ∧ l + m + s = 1) := by
        refine ⟨_, _, _, rfl, rfl, rfl, ?_⟩
        rcases tri a b with ⟨x, y, z⟩ | ⟨x, y, z⟩ | ⟨x, y, z⟩
        · rw [lt1 x, lt0 y, eq0 z]; decide
        · rw [lt0 x, lt1 y, eq0 z]; decide
        · rw [lt0 x, lt0 y, eq1 z]; decide
      obtain ⟨l, m, s, hl, hm, hs, l0, l1, m0, m1, s0, s1, hlms⟩ := H3
      have HL := Lib.hid hl; clear hl
      have HM := Lib.hid hm; clear hm
      have HS := Lib.hid hs; clear hs
      have HB := Lib.hid (laws_behind a b)
      go_wp2_with fail
      refine (fn12 _ _ _ _ _ (by decide) rfl).mono ?_; rintro e w' ⟨rfl, rfl⟩
      go_wp2_with fail
      refine (fn12 _ _ _ _ _ (by decide) rfl).mono ?_; rintro e w' ⟨rfl, rfl⟩
      go_wp2_with fail
      by_cases hz : b = 0
      all_goals
        have HZ := Lib.hid hz; clear hz
      · refine (do_at _ _ _ 0 false _ (by decide) (by rw [HZ.out]; rfl) (by rw [HZ.out]; rfl)).mono ?_; rintro e w' ⟨rfl, rfl⟩
        have hz1 : (b == 0) = true := by rw [HZ.out]; rfl
        have hz2 : (b != 0) = false := by rw [HZ.out]; rfl
        go_wp2_with fail
        refine (fn12 _ _ _ _ _ (by decide) HL.out).mono ?_; rintro e w' ⟨rfl, rfl⟩
        go_wp2_with fail
        refine (fn12 _ _ _ _ _ (by decide) HM.out).mono ?_; rintro e w' ⟨rfl, rfl⟩
        go_wp2_with fail
        refine (fn12 _ _ _ _ _ (by decide) HS.out).mono ?_; rintro e w' ⟨rfl, rfl⟩
        go_wp2_with fail
        refine (fn12 _ _ _ _ _ (by decide) rfl).mono ?_; rintro e w' ⟨rfl, rfl⟩
        go_wp2_with fail
        refine (fn12 _ _ _ a _ (by decide) (as1 a b ha0 ha1)).mono ?_; rintro e w' ⟨rfl, rfl⟩
        go_wp2_with fail
        refine (fn12 _ _ _ _ _ (by decide) rfl).mono ?_; rintro e w' ⟨rfl, rfl⟩
        go_wp2_with fail
        refine (fn12 _ _ _ _ _ (by decide) rfl).mono ?_; rintro e w' ⟨rfl, rfl⟩
        go_wp2_with fail
        refine (fn12 _ _ _ _ _ (by decide) (sb1 a b)).mono ?_; rintro e w' ⟨rfl, rfl⟩
        go_wp2_with fail
        refine (fn12 _ _ _ _ _ (by decide) rfl).mono ?_; rintro e w' ⟨rfl, rfl⟩
        go_wp2_with fail
        refine (fn12 _ _ _ _ _ (by decide) rfl).mono ?_; rintro e w' ⟨rfl, rfl⟩
        go_wp2_with fail
        refine (fn12 _ _ _ a _ (by decide) (xt1 a b ha0 ha1)).mono ?_; rintro e w' ⟨rfl, rfl⟩
        go_wp2_with fail
        refine (fn12 _ _ _ _ _ (by decide) rfl).mono ?_; rintro e w' ⟨rfl, rfl⟩
        go_wp2_with fail
        refine (fn12 _ _ _ (doV 8 a b) _ (by decide) (shl_mod a b)).mono ?_; rintro e w' ⟨rfl, rfl⟩
        go_wp2
        go_ret
        exact ⟨rfl, rfl⟩
      · have hz1 : (b == 0) = false := by simp [HZ.out]
        have hz2 : (b != 0) = true := by simp [HZ.out]
        refine (do_at _ _ _ (doV 3 a b) true _ (by decide) rfl (by simp [doK, HZ.out])).mono ?_; rintro e w' ⟨rfl, rfl⟩
        go_wp2_with fail
        refine (fn12 _ _ _ _ _ (by decide) rfl).mono ?_; rintro e w' ⟨rfl, rfl⟩
        go_wp2_with fail
        refine (fn12 _ _ _ _ _ (by decide) (HB.out hz1 ha0 ha1)).mono ?_; rintro e w' ⟨rfl, rfl⟩
        go_wp2_with fail
        refine (fn12 _ _ _ _ _ (by decide) HL.out).mono ?_; rintro e w' ⟨rfl, rfl⟩
        go_wp2_with fail
        refine (fn12 _ _ _ _ _ (by decide) HM.out).mono ?_; rintro e w' ⟨rfl, rfl⟩
        go_wp2_with fail
        refine (fn12 _ _ _ _ _ (by decide) HS.out).mono ?_; rintro e w' ⟨rfl, rfl⟩
        go_wp2_with fail
        refine (fn12 _ _ _ _ _ (by decide) rfl).mono ?_; rintro e w' ⟨rfl, rfl⟩
        go_wp2_with fail
        refine (fn12 _ _ _ a _ (by decide) (as1 a b ha0 ha1)).mono ?_; rintro e w' ⟨rfl, rfl⟩
        go_wp2_with fail
        refine (fn12 _ _ _ _ _ (by decide) rfl).mono ?_; rintro e w' ⟨rfl, rfl⟩
        go_wp2_with fail
        refine (fn12 _ _ _ _ _ (by decide) rfl).mono ?_; rintro e w' ⟨rfl, rfl⟩
        go_wp2_with fail
        refine (fn12 _ _ _ _ _ (by decide) (sb1 a b)).mono ?_; rintro e w' ⟨rfl, rfl⟩
        go_wp2_with fail
        refine (fn12 _ _ _ _ _ (by decide) rfl).mono ?_; rintro e w' ⟨rfl, rfl⟩
        go_wp2_with fail
        refine (fn12 _ _ _ _ _ (by decide) rfl).mono ?_; rintro e w' ⟨rfl, rfl⟩
        go_wp2_with fail
        refine (fn12 _ _ _ a _ (by decide) (xt1 a b ha0 ha1)).mono ?_; rintro e w' ⟨rfl, rfl⟩
        go_wp2_with fail
        refine (fn12 _ _ _ _ _ (by decide) rfl).mono ?_; rintro e w' ⟨rfl, rfl⟩
        go_wp2_with fail
        refine (fn12 _ _ _ (doV 8 a b) _ (by decide) (shl_mod a b)).mono ?_; rintro e w' ⟨rfl, rfl⟩
        go_wp2
        go_ret
        exact ⟨rfl, rfl⟩
end Go.Proofs.YteojcdpmlhlfaaaDoor
