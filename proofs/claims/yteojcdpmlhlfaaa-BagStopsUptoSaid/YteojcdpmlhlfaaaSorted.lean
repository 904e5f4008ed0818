/- slices.IsSorted at uint16: a rising row is sorted. Condition: the row lies where it is told. -/
import Derived.Test.YteojcdpmlhlfaaaAllH
import Derived.Test.YteojcdpmlhlfaaaSetH
import Derived.WalkLawsBesides
import Derived.WalkSpells
import Derived.Deep.QuietTactic
import Derived.BigQuiet
namespace Go.Proofs.Yteojcdpmlhlfaaa
open Go.RowKit
namespace SH
theorem quietL {P : Program} {f : FuncId} {args : Array Value} {w : World} {n : Nat} {v : Value}
    (h : Calls P f args (w.drewN n) fun e w' => e = .returned v ∧ w.drewN n = w') : Calls P f args (w.drewN n) fun e w'' => e = .returned v ∧ ∃ m, w'' = w.drewN m :=
  h.mono fun _ _ ⟨he, hm⟩ => ⟨he, n, hm.symm⟩
set_option maxHeartbeats 1000000 in
theorem sorted (A : Option Addr) (c : Nat) (l : List Int) (w : World) (hA : CellsAt A l w) (hm : l.length ≤ 1048576) (hs : ∀ (i : Nat) (x y : Int), l[i]? = some x → l[i + 1]? = some y → x < y) :
    Calls Try.prog 17 #[.slice A l.length c] w fun e w' => e = .returned (.bool true) ∧ ∃ m, w' = w.drewN m := by
  have HA := Lib.hid hA; clear hA
  have HS := Lib.hid hs; clear hs
  generalize hn : l.length = n at *
  have HN := Lib.hid hn
  clear hn
  go_enter Try.func17, Try.ntmps17
  go_wp2

  obtain ⟨w0, hw0⟩ : ∃ w0 : World, w0 = w := ⟨_, rfl⟩
  have HW0 := Lib.hid hw0; clear hw0
  go_loopw [3] (fun i wr => ∃ k : Nat, k ≤ n ∧ i = .int .i64 ((k : Int) - 1) ∧ ∃ m, wr = w0.drewN m) (fun i _ => (intOf i + 1).toNat)
  case atStart => exact ⟨n, by omega, rfl, 0, HW0.out.symm⟩
  case round =>
    obtain ⟨k, hk, rfl, m, rfl⟩ := hrel
    by_cases hlt : 2 ≤ k
    · obtain ⟨j, rfl⟩ : ∃ j, k = j + 2 := ⟨k - 2, by omega⟩
      have hj1 : j < l.length := by have := HN.out; omega
      have hj2 : j + 1 < l.length := by have := HN.out; omega
      obtain ⟨g, o, rfl, hc1⟩ := HA.out j hj1
      obtain ⟨g', o', e, hc2⟩ := HA.out (j + 1) hj2
      cases e
      rw [← HW0.out] at hc1 hc2
      obtain ⟨W, hW⟩ : ∃ W, W = w0.drewN m := ⟨_, rfl⟩
      have hc1' : W.cell? ⟨g, o + j, none⟩ = some (.int .u16 l[j]) := by rw [hW]; exact hc1
      have hc2' : W.cell? ⟨g, o + (j + 1), none⟩ = some (.int .u16 l[j + 1]) := by rw [hW]; exact hc2
      rw [← hW]
      have HW := Lib.hid hW
      clear hW hc1 hc2
      have hy := HS.out j l[j] l[j + 1] (List.getElem?_eq_getElem hj1) (List.getElem?_eq_getElem hj2)
      generalize l[j] = y at *
      generalize l[j + 1] = y' at *
      have hlt' : ltI y' y = false := by simp [ltI]; omega
      obtain ⟨q, hq⟩ : ∃ q, q = j + 1 := ⟨_, rfl⟩
      have e : (((j + 2 : Nat) : Int) - 1) = (q : Int) := by omega
      rw [e]
      rw [← hq] at hc2'
      have hqj : (q : Int) - 1 = (j : Int) := by omega
      have hqn : (q : Int) < (n : Int) := by omega
      have hjn : (j : Int) < (n : Int) := by omega
      have hqs : (q : Int) ≤ 1048576 := by omega
      have hq0 : (0 : Int) < (q : Int) := by omega
      have hwj : IntKind.i64.wrap (j : Int) = (j : Int) := by
        have h1 : (j : Int) ≤ 1048576 := by omega
        have h0 : (0 : Int) ≤ (j : Int) := by omega
        simp [IntKind.wrap, IntKind.bits, IntKind.signed]
        omega
      have HQ := Lib.hid hq
      clear e hj1 hj2 hy hq hlt hk
      go_wp2
      go_quiet ((go_at_call 54; exact quietL (lessH _ _ _)))
      rw [hlt']
      go_wp2
      go_roundw
      case rel => exact ⟨q, by omega, by simp [hqj], m + nq, by rw [HW.out]; exact World.drewN_drewN _ _ _⟩
      case measure => simp [intOf]; omega
    · go_wp2
      all_goals first
        | (exfalso; omega)
        | (go_ret; exact ⟨rfl, _, by rw [← HW0.out]⟩)
end SH
end Go.Proofs.Yteojcdpmlhlfaaa
