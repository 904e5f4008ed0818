/- slices.Contains at int: whether an item is among the cells. Condition: the row lies where it is told. -/
import Derived.Test.YtnkbbjeepdjamaaRow
import Derived.Test.YtnkbbjeepdjamaaProg
import Derived.WalkLawsBesides
import Derived.WalkSpells
namespace Go.Proofs.Ytnkbbjeepdjamaa
open Go.RowKit
namespace QI
theorem index (A : Option Addr) (c : Nat) (l : List Int) (x : Int) (w : World) (hA : ∀ (i : Nat) (hi : i < l.length), ∃ g o, A = some ⟨g, o, none⟩ ∧ w.cell? ⟨g, o + i, none⟩ = some (.int .i64 l[i])) (hlc : l.length ≤ c) (hc : c ≤ maxLen) :
    Calls Try.prog 72 #[.slice A l.length c, .int .i64 x] w fun e w' => ∃ z : Int, e = .returned (.int .i64 z) ∧ (decide (0 ≤ z)) = (decide (x ∈ l)) ∧ w = w' := by
  have HA := Lib.hid hA; clear hA
  have hm : l.length ≤ maxLen := by omega
  simp only [maxLen] at hm hc
  go_enter Try.func72, Try.ntmps72
  go_wp2
  obtain ⟨w0, rfl⟩ : ∃ w0 : World, w0 = w := ⟨_, rfl⟩
  go_loopw [8] (fun i wr => ∃ k : Nat, k ≤ l.length ∧ i = .int .i64 k ∧ (∀ j (hj : j < l.length), j < k → l[j] ≠ x) ∧ wr = w0) (fun i _ => l.length - (intOf i).toNat)
  case atStart => exact ⟨0, by omega, rfl, fun j _ h => by omega, rfl⟩
  case round =>
    obtain ⟨k, hk, rfl, hI, rfl⟩ := hrel
    have HI := Lib.hid hI; clear hI
    by_cases hlt : k < l.length
    · obtain ⟨g, o, rfl, hcell⟩ := HA.out k hlt
      by_cases hx : l[k] = x
      · have hxe : (x == l[k]) = true := by simp [hx]
        have hmem : x ∈ l := hx ▸ List.getElem_mem hlt
        have HM := Lib.hid hmem
        clear hmem hx
        generalize l[k] = y at *
        go_wp2
        all_goals go_ret
        all_goals exact ⟨k, rfl, by simp [HM.out], rfl⟩
      · have hxe : (x == l[k]) = false := by simp; exact fun e => hx e.symm
        have HN : Hid (∀ j (hj : j < l.length), j < k + 1 → l[j] ≠ x) := by
          intro j hj hjk
          rcases (by omega : j < k ∨ j = k) with h | rfl
          · exact HI.out j hj h
          · exact hx
        clear hx
        generalize l[k] = y at *
        go_wp2
        go_roundw
        case rel => exact ⟨k + 1, by omega, by go_num, HN.out, by trivial⟩
        case measure => simp [intOf]; omega
    · obtain rfl : k = l.length := by omega
      have HN : Hid (x ∉ l) := by
        intro h
        obtain ⟨j, hj, e⟩ := List.getElem_of_mem h
        exact HI.out j hj hj e
      go_wp2
      go_ret
      exact ⟨-1, rfl, by simp [HN.out], rfl⟩
theorem contains_at (A : Option Addr) (c : Nat) (l : List Int) (x : Int) (w : World) (hA : ∀ (i : Nat) (hi : i < l.length), ∃ g o, A = some ⟨g, o, none⟩ ∧ w.cell? ⟨g, o + i, none⟩ = some (.int .i64 l[i])) (hlc : l.length ≤ c) (hc : c ≤ maxLen) :
    Calls Try.prog 48 #[.slice A l.length c, .int .i64 x] w fun e w' => e = .returned (.bool (decide (x ∈ l))) ∧ w = w' := by
  have h1 := index A c l x w hA hlc hc
  have H1 := Lib.hid h1
  clear h1 hA hlc hc
  go_enter Try.func48, Try.ntmps48
  go_wp2_with fail
  refine H1.out.mono ?_
  rintro e w' ⟨z, rfl, hz, rfl⟩
  have HZ := Lib.hid hz
  clear H1 hz
  go_wp2
  all_goals go_ret
  all_goals exact ⟨by rw [← HZ.out]; rfl, rfl⟩
theorem contains {w : World} {base : Nat} {v : Value} {l : List Int} (x : Int) (h : RowAt w base 3 v (l.map (Value.int .i64))) :
    Calls Try.prog 48 #[v, .int .i64 x] w fun e w' => e = .returned (.bool (decide (x ∈ l))) ∧ w = w' := by
  rcases h with ⟨rfl, h⟩ | ⟨g, o, cap, cur, rfl, _, hh, hl, hm, _, hx⟩
  · obtain rfl : l = [] := by simpa using h
    exact contains_at none 0 [] x w (fun i hi => by simp at hi) (by simp) (by simp [maxLen])
  · rw [List.length_map] at hl ⊢
    refine contains_at _ cap l x w (fun i hi => ⟨g, o, rfl, ?_⟩) hl hm
    rw [cell_of_blk _ _ _ _ _ hh]
    exact hx i _ (by simp [List.getElem?_eq_getElem hi])
end QI
end Go.Proofs.Ytnkbbjeepdjamaa
