/- What the chapter's example computes: word.Op.Name at 'lt', refinerylaw01.Awake. Condition: the table's last cell holds "lt". -/
import Derived.Test.YteojcdpmlhlfaaaDoorDo
namespace Go.Proofs.YteojcdpmlhlfaaaDoor
open Go.RowKit

theorem name_11 (w : World) (h : w.cell? ⟨0, 11, none⟩ = some (.string ⟨#[108, 116]⟩)) : Calls Tryd.prog 15 #[.int .u8 11] w fun e w' => e = .returned (.string ⟨#[108, 116]⟩) ∧ w = w' := by
  go_enter Tryd.func15, Tryd.ntmps15
  go_wp2
  go_ret
  exact ⟨rfl, rfl⟩
theorem do_at (o a b v : Int) (k : Bool) (w : World) (h0 : 0 ≤ o) (hv : doV o a b = v) (hk : doK o b = k) : Calls Tryd.prog 9 #[.int .u8 o, .int .i64 a, .int .i64 b] w fun e w' => e = .returned (.tuple #[.int .i64 v, .bool k]) ∧ w = w' := by
  subst hv; subst hk; exact do_any o a b w h0
theorem awake (w : World) (h : w.cell? ⟨0, 11, none⟩ = some (.string ⟨#[108, 116]⟩)) : Calls Tryd.prog 8 #[] w fun e w' => e = .returned (.bool true) ∧ w = w' := by
  go_enter Tryd.func8, Tryd.ntmps8
  go_wp2_with (first
   | (go_at_call 9; refine (do_at 9 (-8) 1 (-4) true _ (by decide) (by decide) (by decide)).mono ?_; rintro e w' ⟨rfl, rfl⟩)
   | (go_at_call 15; refine (name_11 _ h).mono ?_; rintro e w' ⟨rfl, rfl⟩))
  go_ret
  exact ⟨rfl, rfl⟩

theorem e1 : doV 3 (-9223372036854775808) (-1) = -9223372036854775808 := by decide +kernel
theorem e2 : doV 4 (-9223372036854775808) (-1) = 0 := by decide +kernel
theorem e3 : doV 1 0 (-9223372036854775808) = -9223372036854775808 := by decide +kernel
theorem e4 : doV 0 9223372036854775807 1 = -9223372036854775808 := by decide +kernel
theorem e5 (a : Int) : doV 2 a (-1) = wrap64 (-a) := by unfold doV; simp
theorem e6 (a : Int) : doV 1 0 a = wrap64 (-a) := by unfold doV; simp
theorem e7 (a : Int) : doV 4 a 0 = 0 := by unfold doV; simp
theorem edges (a : Int) (w : World) (h : w.cell? ⟨0, 11, none⟩ = some (.string ⟨#[108, 116]⟩)) : Calls Tryd.prog 5 #[.int .i64 a] w fun e w' => e = .returned (.bool true) ∧ w = w' := by
  go_enter Tryd.func5, Tryd.ntmps5
  go_wp2_with (first
   | (go_at_call 8; refine (awake _ h).mono ?_; rintro e w' ⟨rfl, rfl⟩))
  go_wp2_with fail
  refine (do_at _ _ _ (-9223372036854775808) true _ (by decide) e1 (by decide +kernel)).mono ?_; rintro e w' ⟨rfl, rfl⟩
  go_wp2_with fail
  refine (do_at _ _ _ 0 true _ (by decide) e2 (by decide +kernel)).mono ?_; rintro e w' ⟨rfl, rfl⟩
  go_wp2_with fail
  refine (do_at _ _ _ (-9223372036854775808) true _ (by decide) e3 (by decide +kernel)).mono ?_; rintro e w' ⟨rfl, rfl⟩
  go_wp2_with fail
  refine (do_at _ _ _ (-9223372036854775808) true _ (by decide) e4 (by decide +kernel)).mono ?_; rintro e w' ⟨rfl, rfl⟩
  go_wp2_with fail
  refine (do_at _ _ _ _ true _ (by decide) (e5 a) (by decide +kernel)).mono ?_; rintro e w' ⟨rfl, rfl⟩
  go_wp2_with fail
  refine (do_at _ _ _ _ true _ (by decide) (e6 a) (by simp [doK])).mono ?_; rintro e w' ⟨rfl, rfl⟩
  go_wp2_with fail
  refine (do_at _ _ _ _ false _ (by decide) (e7 a) (by decide +kernel)).mono ?_; rintro e w' ⟨rfl, rfl⟩
  go_wp2
  go_ret
  exact ⟨rfl, rfl⟩
end Go.Proofs.YteojcdpmlhlfaaaDoor
