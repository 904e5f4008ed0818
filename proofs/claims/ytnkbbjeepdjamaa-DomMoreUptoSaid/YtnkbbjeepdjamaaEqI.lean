/- slices.Equal at int: whether two rows are the same. Condition: the rows lie where they are told. -/
import Derived.Test.YtnkbbjeepdjamaaCellsI
import Derived.WalkLawsBesides
import Derived.WalkSpells
import Derived.Deep.QuietTactic
import Derived.BigQuiet
namespace Go.Proofs.Ytnkbbjeepdjamaa
open Go.RowKit
namespace SI
set_option maxHeartbeats 1000000 in
theorem equal (A A' : Option Addr) (c c' : Nat) (l l' : List Int) (w : World) (hA : CellsAt A l w) (hA' : CellsAt A' l' w) (hm : l.length ≤ maxLen) (hm' : l'.length ≤ maxLen) :
    Calls Try.prog 23 #[.slice A l.length c, .slice A' l'.length c'] w fun e w' => e = .returned (.bool (decide (l = l'))) ∧ ∃ m, w' = w.drewN m := by
  have HA := Lib.hid hA; clear hA
  have HA' := Lib.hid hA'; clear hA'
  simp only [maxLen] at hm hm'
  by_cases hll : l.length = l'.length
  · have hq : ((l.length : Int) != (l'.length : Int)) = false := by simp [hll]
    generalize hn : l.length = n at *
    generalize hn' : l'.length = n' at *
    have HN := Lib.hid hn; have HN' := Lib.hid hn'; have HLL := Lib.hid hll
    clear hn hn'
    subst hll
    go_enter Try.func23, Try.ntmps23
    go_wp2
    obtain ⟨w0, hw0⟩ : ∃ w0 : World, w0 = w := ⟨_, rfl⟩
    have HW0 := Lib.hid hw0; clear hw0
    go_loopw [13] (fun i wr => ∃ k : Nat, k ≤ n ∧ i = .int .i64 k ∧ (∀ j : Nat, j < k → l[j]? = l'[j]?) ∧ ∃ m, wr = w0.drewN m) (fun i _ => n - (intOf i).toNat)
    case atStart => exact ⟨0, by omega, rfl, fun j h => by omega, 0, HW0.out.symm⟩
    case round =>
      obtain ⟨k, hk, rfl, hI, m, rfl⟩ := hrel
      have HI := Lib.hid hI; clear hI
      by_cases hlt : k < n
      · have hk1 : k < l.length := by have := HN.out; omega
        have hk2 : k < l'.length := by have := HN'.out; omega
        obtain ⟨g, o, rfl, hc1⟩ := HA.out k hk1
        obtain ⟨g', o', rfl, hc2⟩ := HA'.out k hk2
        rw [← HW0.out] at hc1 hc2
        have hkI : (k : Int) < (n : Int) := by omega
        have HY : Hid (l[k]? = some l[k] ∧ l'[k]? = some l'[k]) := ⟨List.getElem?_eq_getElem hk1, List.getElem?_eq_getElem hk2⟩
        generalize l[k] = y at *
        generalize l'[k] = y' at *
        clear hk1 hk2
        go_wp2
        go_quiet (fail)
        by_cases hyy : y = y'
        · have hye : ((y != y')) = false := by simp [hyy]
          have HN2 : Hid (∀ j : Nat, j < k + 1 → l[j]? = l'[j]?) := by
            intro j hj
            rcases (by omega : j < k ∨ j = k) with h | rfl
            · exact HI.out j h
            · rw [HY.out.1, HY.out.2, hyy]
          clear hc1 hc2 hye
          subst hyy
          go_wp2
          all_goals try (exfalso; rename_i hbad; simp at hbad; done)
          go_roundw
          case rel => exact ⟨k + 1, by omega, by go_num, HN2.out, _, rfl⟩
          case measure => simp [intOf]; omega
        · have hye : ((y != y')) = true := by simp [hyy]
          have he : Hid (decide (l = l') = false) := by
            refine decide_eq_false (fun e => hyy ?_)
            have h1 := HY.out.1
            rw [e, HY.out.2] at h1
            exact (Option.some.inj h1).symm
          have hye2 : (y == y') = false := by simp [hyy]
          have HYE := Lib.hid hye2
          clear hyy hc1 hc2
          go_wp2
          all_goals try (exfalso; rename_i hbad; rw [HYE.out] at hbad; cases hbad; done)
          go_ret
          exact ⟨by rw [he.out]; rfl, m + nq, by rw [← HW0.out]; exact World.drewN_drewN _ _ _⟩
      · obtain rfl : k = n := by omega
        have he : Hid (decide (l = l') = true) := by
          refine decide_eq_true (List.ext_getElem? fun j => ?_)
          by_cases hj : j < k
          · exact HI.out j hj
          · rw [List.getElem?_eq_none (by have := HN.out; omega), List.getElem?_eq_none (by have := HN'.out; omega)]
        go_wp2
        go_ret
        exact ⟨by rw [he.out]; rfl, _, by rw [← HW0.out]⟩
  · have hq : ((l.length : Int) != (l'.length : Int)) = true := by simp; omega
    have he : Hid (decide (l = l') = false) := by
      refine decide_eq_false (fun e => hll (by rw [e]))
    go_enter Try.func23, Try.ntmps23
    go_wp2
    all_goals first
      | (exfalso; omega)
      | (go_ret; exact ⟨by rw [he.out]; rfl, 0, rfl⟩)
end SI
end Go.Proofs.Ytnkbbjeepdjamaa
