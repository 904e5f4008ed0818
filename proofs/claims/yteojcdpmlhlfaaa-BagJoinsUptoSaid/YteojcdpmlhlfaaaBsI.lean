/- What slices.BinarySearch[[]int] answers of a rising slice: the place where the item belongs, and whether it is there. Conditions: the slice's cells hold the rising list. -/
import Derived.Test.YteojcdpmlhlfaaaOrd
import Derived.Test.YteojcdpmlhlfaaaProg
import Derived.WalkKit
import Derived.WalkLawsBesides
import Derived.WalkSpells
import Derived.BigQuiet
import Derived.Lib.Hide
namespace Go.Proofs.Yteojcdpmlhlfaaa
open Go.RowKit

theorem above_midI {α : Type} {lt : α → α → Bool} (o : LinOrd lt) (xs : List α) (hs : Srt lt xs) (m : Nat) (z x : α) (hz : xs[m]? = some z) (ht : lt z x = false) (k : Nat) (y : α) (hk : m ≤ k) (hy : xs[k]? = some y) : lt y x = false := by
  cases e : lt y x
  · rfl
  · exfalso
    rcases Nat.lt_or_ge m k with hlt | hge
    · obtain ⟨hl, e1⟩ := List.getElem?_eq_some_iff.1 hz
      obtain ⟨hl', e2⟩ := List.getElem?_eq_some_iff.1 hy
      have := List.pairwise_iff_getElem.1 hs m k hl hl' hlt
      rw [e1, e2] at this
      have := o.trans _ _ _ this e
      rw [ht] at this; cases this
    · obtain rfl : m = k := by omega
      rw [hz] at hy; cases hy
      rw [ht] at e; cases e
theorem below_midI {α : Type} {lt : α → α → Bool} (o : LinOrd lt) (xs : List α) (hs : Srt lt xs) (m : Nat) (z x : α) (hz : xs[m]? = some z) (ht : lt z x = true) (k : Nat) (y : α) (hk : k ≤ m) (hy : xs[k]? = some y) : lt y x = true := by
  rcases Nat.lt_or_ge k m with hlt | hge
  · obtain ⟨hl, e1⟩ := List.getElem?_eq_some_iff.1 hz
    obtain ⟨hl', e2⟩ := List.getElem?_eq_some_iff.1 hy
    have := List.pairwise_iff_getElem.1 hs k m hl' hl hlt
    rw [e1, e2] at this
    exact o.trans _ _ _ this ht
  · obtain rfl : m = k := by omega
    rw [hz] at hy; cases hy
    exact ht
theorem nanI (a : Int) (w : World) : Calls Try.prog 95 #[.int .i64 a] w fun e w' => e = .returned (.bool false) ∧ w = w' := by
  go_enter Try.func95, Try.ntmps95
  go_wp2
  go_ret
  exact ⟨rfl, rfl⟩
theorem snanI (a : Int) (w : World) : Calls Try.prog 84 #[.int .i64 a] w fun e w' => e = .returned (.bool false) ∧ w = w' := by
  go_enter Try.func84, Try.ntmps84
  go_wp2
  go_ret
  exact ⟨rfl, rfl⟩
theorem lessI (a b : Int) (w : World) : Calls Try.prog 83 #[.int .i64 a, .int .i64 b] w fun e w' => e = .returned (.bool (ltI a b)) ∧ w = w' := by
  go_enter Try.func83, Try.ntmps83
  go_wp2_with (go_at_call 95; refine (nanI _ _).mono ?_; rintro e w' ⟨rfl, rfl⟩)
  go_ret
  exact ⟨rfl, rfl⟩
theorem bsI_nil (x : Int) (w : World) : Calls Try.prog 64 #[.slice none 0 0, .int .i64 x] w fun e w' => e = .returned (.tuple #[.int .i64 0, .bool false]) ∧ w = w' := by
  go_enter Try.func64, Try.ntmps64
  go_wp2
  go_loop [7, 8] (fun i j => i = .int .i64 0 ∧ j = .int .i64 0) (fun _ _ => 0)
  case atStart => exact ⟨rfl, rfl⟩
  case round =>
    obtain ⟨rfl, rfl⟩ := hrel
    go_wp2
    go_ret2
    exact ⟨rfl, rfl⟩
set_option maxHeartbeats 400000 in
theorem bsI (b n c : Nat) (xs : List Int) (x : Int) (w : World) (hn : n ≤ 4611686018427387904) (hl : n = xs.length) (hs : Srt ltI xs) (hc : ∀ k y, xs[k]? = some y → w.cell? ⟨b, k, none⟩ = some (.int .i64 y)) :
    Calls Try.prog 64 #[.slice (some ⟨b, 0, none⟩) n c, .int .i64 x] w fun e w' => e = .returned (.tuple #[.int .i64 (lbd ltI x xs), .bool (decide (x ∈ xs))]) ∧ w = w' := by
  have HC := Lib.hid hc; clear hc
  have HL := Lib.hid hl; clear hl
  go_enter Try.func64, Try.ntmps64
  go_wp2
  go_loop [7, 8] (fun i j => ∃ p q : Nat, p ≤ q ∧ q ≤ n ∧ i = .int .i64 p ∧ j = .int .i64 q ∧ Hid (∀ k y, k < p → xs[k]? = some y → ltI y x = true) ∧ Hid (∀ k y, q ≤ k → xs[k]? = some y → ltI y x = false)) (fun i j => (intOf j - intOf i).toNat)
  case atStart => exact ⟨0, n, by omega, by omega, rfl, rfl, (fun k y h => by omega : ∀ k y, k < 0 → _), (fun k y h hy => by have := (List.getElem?_eq_some_iff.1 hy).1; have := HL.out; omega : ∀ k y, n ≤ k → _)⟩
  case round =>
    obtain ⟨p, q, hpq, hqn, rfl, rfl, h1, h2⟩ := hrel
    by_cases hlt : p < q
    · obtain ⟨z, hx⟩ : ∃ z, xs[(p + q) / 2]? = some z := ⟨_, List.getElem?_eq_getElem (by have := HL.out; omega)⟩
      have hc := HC.out _ _ hx
      have HX := Lib.hid hx; clear hx
      cases ht : ltI z x
      · have HT := Lib.hid ht; clear ht
        go_wp2_with fail
        refine (lessI _ _ _).mono ?_; rintro e w' ⟨rfl, rfl⟩
        rw [HT.out]
        go_wp2
        go_round
        case rel =>
          refine ⟨p, (p + q) / 2, by omega, by omega, rfl, by go_num, h1, fun k y hk hy => ?_⟩
          exact above_midI ordI xs hs _ _ x HX.out HT.out k y hk hy
        case measure => simp [intOf]; omega
      · have HT := Lib.hid ht; clear ht
        go_wp2_with fail
        refine (lessI _ _ _).mono ?_; rintro e w' ⟨rfl, rfl⟩
        rw [HT.out]
        go_wp2
        go_round
        case rel =>
          refine ⟨(p + q) / 2 + 1, q, by omega, by omega, by go_num, rfl, fun k y hk hy => ?_, h2⟩
          exact below_midI ordI xs hs _ _ x HX.out HT.out k y (by omega) hy
        case measure => simp [intOf]; omega
    · obtain rfl : p = q := by omega
      have hp : lbd ltI x xs = p := lbd_of ordI x xs hs p (by have := HL.out; omega) h1.out h2.out
      by_cases hpn : p < n
      · obtain ⟨z, hx⟩ : ∃ z, xs[p]? = some z := ⟨_, List.getElem?_eq_getElem (by have := HL.out; omega)⟩
        have hc := HC.out _ _ hx
        by_cases he : z = x
        · have hmem : decide (x ∈ xs) = true := by rw [decide_eq_true_iff, mem_iff ordI x xs hs, hp, hx, he]
          have HM := Lib.hid hmem; have HP := Lib.hid hp; have HE := Lib.hid he; clear hmem hp he hx
          have ht : (z == x) = true := by rw [HE.out]; simp
          go_wp2
          go_ret2
          exact ⟨by rw [HP.out, HM.out]; rfl, rfl⟩
        · have hmem : decide (x ∈ xs) = false := by
            rw [decide_eq_false_iff_not, mem_iff ordI x xs hs, hp, hx]
            intro h; exact he (Option.some.inj h)
          have ht : (z == x) = false := by simp [he]
          have HM := Lib.hid hmem; have HP := Lib.hid hp; clear hmem hp he hx
          go_wp2_with (go_at_call 84; refine (snanI _ _).mono ?_; rintro e w' ⟨rfl, rfl⟩)
          go_ret2
          exact ⟨by rw [HP.out, HM.out]; rfl, rfl⟩
      · have hmem : decide (x ∈ xs) = false := by
          rw [decide_eq_false_iff_not, mem_iff ordI x xs hs, hp, List.getElem?_eq_none (by have := HL.out; omega)]
          intro h; cases h
        have HM := Lib.hid hmem; have HP := Lib.hid hp; clear hmem hp
        have hd : decide ((p : Int) < (n : Int)) = false := by simp; omega
        go_wp2
        go_ret2
        exact ⟨by rw [HP.out, HM.out]; rfl, rfl⟩
end Go.Proofs.Yteojcdpmlhlfaaa
