/- What slices.Values of a row gives: its cells, one after the other, whatever the loop's body does to the rest of the memory. Condition: the body leaves the cells as they are. -/
import Derived.RangeFuncNested
import Derived.RangeFuncBound
import Derived.RangeFuncCalls
import Derived.RangeFuncLeaves
import Derived.Shelf.Abstract
import Derived.Shelf.RegionOpen
import Derived.WalkKit
import Derived.OwnWalkIn
import Derived.TacticsInMore
import Derived.LoopNIn
import Derived.LoopIn
import Derived.Test.YtffnkbicbfjnpaaRf
import Derived.Test.YtffnkbicbfjnpaaCellsI
namespace Go.Proofs.Ytffnkbicbfjnpaa
open Go.RowKit Go.Shelf
attribute [local go_sem] Oper.semAt_some
namespace SI

theorem values (A : Option Addr) (n c : Nat) (w : World) : Calls Try.prog 87 #[.slice A n c] w fun e w' => e = .returned (.func (.func 111) #[] #[.pointer (some ⟨w.heap.size, 0, none⟩)]) ∧ w' = w.alloc (.cells #[.slice A n c] 40) := by
  go_enter Try.func87, Try.ntmps87
  go_wp2
  go_ret
  exact ⟨rfl, rfl⟩

def encs (xs : List Int) (k : Nat) : Array Value := #[.int .i64 (xs[k]?.getD 0)]
set_option maxHeartbeats 1000000 in
theorem values_in (n : Nat) (B l : Nat) (A : Option Addr) (c : Nat) (xs : List Int) (hmax : xs.length ≤ maxLen) (J Jx : Nat → World → Prop) (hRd : ∀ k W, J k W → CellsAt A xs W)
    (hY : ∀ k W, k < xs.length → J k W → YieldAt Fence.wide (n - 1) Try.prog l (encs xs k) W fun e W' => (e = .returned (.bool true) ∧ J (k + 1) W') ∨ (e = .returned (.bool false) ∧ Jx (k + 1) W'))
    (W : World) (hB : W.cell? ⟨B, 0, none⟩ = some (.slice A xs.length c)) (h0 : J 0 W) :
    CallsIn Fence.wide n Try.prog 111 #[.func (.yield l) #[] #[], .pointer (some ⟨B, 0, none⟩)] W fun e W' => (∃ v, e = .returned v) ∧ (J xs.length W' ∨ ∃ k, Jx k W') := by
  refine callsIn_of_wp Try.func111 rfl trivial ?_ rfl
  simp only [Try.ntmps111, List.size_toArray, List.length_cons, List.length_nil, Nat.reduceAdd, Nat.reduceSub, Array.replicate_succ, Array.replicate_zero, List.push_toArray, List.append_toArray, List.nil_append, List.cons_append]
  gi_wp2
  have HRD := Lib.hid hRd
  clear hRd
  have hm : (xs.length : Int) ≤ 9223372036854775807 := by simp only [maxLen] at hmax; omega
  gi_loopw [7] (fun i wr => ∃ k : Nat, k ≤ xs.length ∧ i = .int .i64 k ∧ J k wr) (fun i _ => xs.length - (intOf i).toNat)
  case atStart => exact ⟨0, by omega, rfl, h0⟩
  case round =>
    obtain ⟨k, hk, rfl, hJ⟩ := hrel
    by_cases hlt : k < xs.length
    · obtain ⟨g, o, rfl, hcell⟩ := HRD.out k wr hJ k hlt
      obtain ⟨fn, tmps, assign, body, hy, hR⟩ := hY k wr hlt hJ
      have he : encs xs k = #[.int .i64 xs[k]] := by simp [encs, hlt]
      rw [he] at hy
      clear he
      generalize xs[k] = y at *
      gi_wp2
      refine ⟨fun h => by simp [Fence.wide] at h, hR.mono ?_⟩
      rintro e W3 (⟨rfl, hJ3⟩ | ⟨rfl, hJx3⟩)
      · gi_wp2
        go_roundw
        case rel => exact ⟨k + 1, by omega, by go_num, hJ3⟩
        case measure => simp [intOf]; omega
      · gi_wp2
        refine bodyPost_ret (results_none rfl _ _ _) rfl ?_
        exact ⟨⟨_, rfl⟩, .inr ⟨k + 1, hJx3⟩⟩
    · obtain rfl : k = xs.length := by omega
      gi_wp2
      go_end0
      exact ⟨⟨_, rfl⟩, .inl hJ⟩
end SI
end Go.Proofs.Ytffnkbicbfjnpaa
