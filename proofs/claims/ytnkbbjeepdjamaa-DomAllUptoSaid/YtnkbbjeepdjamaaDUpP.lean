/- dom.Tree.Below; the nearest one, plain. Conditions: the tree is few. -/
import Derived.Test.YtnkbbjeepdjamaaDOver
import Derived.Test.YtnkbbjeepdjamaaM1
import Derived.Test.YtnkbbjeepdjamaaGLaw
namespace Go.Proofs.Ytnkbbjeepdjamaa
open Go.RowKit
/-- Those whose nearest one is v: a row of its own. -/
theorem below_in {w : World} {base n qu qb qd : Nat} {vs : List Value} {up deep : List Int} (h : TR w base n qu qb qd vs up deep (belows up n n)) (v : Nat) (hv : v < n) (hn : n ≤ 1048575) :
    Calls Try.prog 24 #[treeV qu qb qd n, .int .i64 v] w fun e w' => ∃ A c, e = .returned (.slice A (belowOf up n v).length c) ∧ RowAt w' w.heap.size 3 (.slice A (belowOf up n v).length c) ((belowOf up n v).map iv) ∧ Below w.heap.size w w' := by
  unfold treeV
  obtain ⟨X, hX⟩ : ∃ X, w.alloc (.cells #[.slice (some ⟨qu, 0, none⟩) n n, .slice (some ⟨qb, 0, none⟩) n n, .slice (some ⟨qd, 0, none⟩) n n] 33) = X := ⟨_, rfl⟩
  obtain ⟨hx, hbx, hz⟩ := boxed hX rfl
  have hT := h.later hbx
  have i0 : 0 ≤ (v : Int) := by omega
  have i1 : (v : Int) < (n : Int) := by omega
  have x0 := cell_of_blk _ _ _ _ _ hx 0
  have x1 := cell_of_blk _ _ _ _ _ hx 1
  have x2 := cell_of_blk _ _ _ _ _ hx 2
  simp at x0 x1 x2
  obtain ⟨r, l, hr, hl, hrow⟩ := hT.mat.get (i := v) (by rw [belows_len]; exact hv)
  rw [belows_get up hv] at hl
  obtain rfl := Option.some.inj hl
  have hc := hT.mat.cell v
  rw [hr] at hc
  have hlen := belowOf_len up n v
  have HX := Lib.hid (And.intro hrow (And.intro hbx hz))
  clear h hx hT hr hl hrow hbx hz
  rw [← hX] at x0 x1 x2 hc
  have HXX := Lib.hid hX
  clear hX
  go_enter Try.func24, Try.ntmps24
  go_wp2_with fail
  refine Calls.mono (cloneG (by rw [HXX.out]; exact HX.out.1) (by omega)) ?_
  rintro e W1 ⟨v', rfl, ho, hb⟩
  rw [HXX.out] at ho hb
  have hr1 := RowAt.of_own ho
  obtain ⟨A, c, rfl, _, _, _⟩ := rowAt_slice hr1
  rw [List.length_map] at hr1
  have HR := Lib.hid (And.intro (RowAt.lower (base' := w.heap.size) hr1 (by have := HX.out.2.1.size; omega)) (below_two HX.out.2.1 hb))
  clear hr1 ho hb
  go_wp2_with fail
  go_ret
  exact ⟨A, c, by simp, HR.out.1, HR.out.2⟩
/-- Out of the tree: none. -/
theorem below_out (qu qb qd n : Nat) (x : Int) (hx : x < 0 ∨ (n : Int) ≤ x) (w : World) :
    Calls Try.prog 24 #[treeV qu qb qd n, .int .i64 x] w fun e w' => e = .returned (.slice none 0 0) ∧ Below w.heap.size w w' := by
  unfold treeV
  by_cases h1 : x < 0
  · clear hx
    go_enter Try.func24, Try.ntmps24
    go_wp2_with fail
    go_ret
    exact ⟨rfl, (Below.refl _ _).alloc (Nat.le_refl _) _⟩
  · have h2 : (n : Int) ≤ x := by omega
    clear hx
    go_enter Try.func24, Try.ntmps24
    go_wp2_with fail
    go_ret
    exact ⟨rfl, (Below.refl _ _).alloc (Nat.le_refl _) _⟩
namespace LT
/-- a is the only nearest one over i. -/
def Only1 (g : Nat → List Nat) (n a i : Nat) : Prop := a ≠ i ∧ Ov g a i ∧ ∀ k, k < n → k = i ∨ ¬ Ov g k i ∨ Ov g k a
theorem DTree.val {g : Nat → List Nat} {n : Nat} {up deep : List Int} (h : DTree g n up deep) {i : Nat} (hi : i < n) : ∃ x : Int, up[i]? = some x ∧ x < (n : Int) ∧ -1 ≤ x ∧ ∀ a : Nat, (Only1 g n a i ↔ x = (a : Int)) := by
  by_cases hw : Way g 0 i
  · by_cases h0 : i = 0
    · subst h0
      refine ⟨-1, h.zero.1, by omega, by omega, fun a => ⟨fun e => ?_, fun e => by omega⟩⟩
      have : a = 0 := Classical.byContradiction fun hn => e.2.1.2.2 (.zero (by omega))
      exact absurd this e.1
    · obtain ⟨u, d, h1, h2, h3, h4, h5⟩ := h.near i hw h0
      have hun := h.lt u h1
      have hui : u ≠ i := fun e => by
        subst e
        rw [h3] at h4
        have := Option.some.inj h4
        omega
      refine ⟨(u : Int), h2, by omega, by omega, fun a => ⟨fun e => ?_, fun e => ?_⟩⟩
      · have ha : Ov g a u := ((h5 a).1 e.2.1).resolve_left e.1
        have hb : Ov g u a := by
          rcases e.2.2 u hun with k | k | k
          · exact absurd k hui
          · exact absurd ((h5 u).2 (.inr (ov_self h1))) k
          · exact k
        obtain ⟨da, hda, _⟩ := h.deep_of ha.1
        have l1 := h.le d a u da ha h4 hda
        have l2 := h.le da u a d hb hda h4
        have : a = u := l1.2 (by omega)
        rw [this]
      · obtain rfl : u = a := by omega
        refine ⟨hui, (h5 u).2 (.inr (ov_self h1)), fun k _ => ?_⟩
        by_cases hk : Ov g k i
        · rcases (h5 k).1 hk with rfl | e2
          · exact .inl rfl
          · exact .inr (.inr e2)
        · exact .inr (.inl hk)
  · refine ⟨-1, (h.un i hi hw).1, by omega, by omega, fun a => ⟨fun e => absurd e.2.1.2.1 hw, fun e => by omega⟩⟩
end LT
end Go.Proofs.Ytnkbbjeepdjamaa
