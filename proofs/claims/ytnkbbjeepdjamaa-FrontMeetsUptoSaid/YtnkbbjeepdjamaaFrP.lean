/- Where a place's rule ends, plain: one chain of those over a place, step by step. No condition. -/
import Derived.Test.YtnkbbjeepdjamaaM1
import Derived.Test.YtnkbbjeepdjamaaM3
namespace Go.Proofs.Ytnkbbjeepdjamaa
namespace LT
/-- v is in the front of r. -/
def FrontR (g : Nat → List Nat) (r v : Nat) : Prop := ∃ u, v ∈ g u ∧ Ov g r u ∧ (r = v ∨ ¬ Ov g r v)
/-- Those over u that are below c. -/
def Past (g : Nat → List Nat) (u : Nat) (c : Int) (r : Nat) : Prop := Ov g r u ∧ (c = -1 ∨ ∃ c' : Nat, c = (c' : Int) ∧ Ov g c' r ∧ c' ≠ r)
/-- Where one stands on the chain: at one over u, or above all; or at u itself, if it isn't reached. -/
def On (g : Nat → List Nat) (n u : Nat) (c : Int) : Prop := c = -1 ∨ ∃ c' : Nat, c = (c' : Int) ∧ c' < n ∧ (Ov g c' u ∨ (c' = u ∧ ¬ Way g 0 u))
/-- What is asked of one of them. -/
def Asks (g : Nat → List Nat) (v r : Nat) : Prop := r = v ∨ ¬ Ov g r v
section
variable {g : Nat → List Nat} {n : Nat} {up deep : List Int} (h : DTree g n up deep)
include h
theorem DTree.anti {a b : Nat} (h1 : Ov g a b) (h2 : Ov g b a) : a = b := by
  obtain ⟨da, ha, _⟩ := h.deep_of h1.1
  obtain ⟨db, hb, _⟩ := h.deep_of h1.2.1
  have l1 := h.le db a b da h1 hb ha
  have l2 := h.le da b a db h2 ha hb
  exact l1.2 (by omega)
theorem DTree.tr {a b c : Nat} (h1 : Ov g a b) (h2 : Ov g b c) : Ov g a c := by
  obtain ⟨dc, hc, _⟩ := h.deep_of h2.2.1
  exact h.trans dc c b a hc h2 h1
theorem DTree.par {a b c : Nat} (h1 : Ov g a c) (h2 : Ov g b c) : Ov g a b ∨ Ov g b a := by
  obtain ⟨dc, hc, _⟩ := h.deep_of h1.2.1
  exact h.pair dc c a b hc h1 h2
omit h in
theorem ov_zero {r : Nat} (hr : Way g 0 r) : Ov g 0 r := ⟨.refl 0, hr, wayO_not0⟩
theorem DTree.start {u : Nat} (hu : u < n) : On g n u (u : Int) ∧ ∀ r, ¬ Past g u (u : Int) r := by
  refine ⟨.inr ⟨u, rfl, hu, ?_⟩, ?_⟩
  · by_cases hw : Way g 0 u
    · exact .inl (ov_self hw)
    · exact .inr ⟨rfl, hw⟩
  · rintro r ⟨h1, h2 | ⟨c', h2, h3, h4⟩⟩
    · omega
    · obtain rfl : u = c' := by omega
      exact h4 (h.anti h3 h1)
/-- One step up. -/
theorem DTree.next {u c : Nat} (hc : Ov g c u) : ∃ x : Int, up[c]? = some x ∧ On g n u x ∧ (∀ r, Past g u x r ↔ Past g u (c : Int) r ∨ r = c) ∧ ∃ d : Nat, deep[c]? = some (d : Int) ∧ ((x = -1) ∨ ∃ (c' : Nat) (d' : Nat), x = (c' : Int) ∧ c' < n ∧ deep[c']? = some (d' : Int) ∧ d = d' + 1) := by
  obtain ⟨dc, hdc, hz⟩ := h.deep_of hc.1
  by_cases h0 : c = 0
  · subst h0
    refine ⟨-1, h.zero.1, .inl rfl, fun r => ⟨fun e => ?_, fun e => ?_⟩, dc, hdc, .inl rfl⟩
    · by_cases hr : r = 0
      · exact .inr hr
      · exact .inl ⟨e.1, .inr ⟨0, rfl, ov_zero e.1.1, fun e => hr e.symm⟩⟩
    · rcases e with e | rfl
      · exact ⟨e.1, .inl rfl⟩
      · exact ⟨hc, .inl rfl⟩
  · obtain ⟨p, d, h1, h2, h3, h4, h5⟩ := h.near c hc.1 h0
    have hpc : Ov g p c := (h5 p).2 (.inr (ov_self h1))
    have hpu := h.tr hpc hc
    have hne : p ≠ c := fun e => by
      subst e; rw [h4] at h3; have := Option.some.inj h3; omega
    refine ⟨(p : Int), h2, .inr ⟨p, rfl, h.lt p h1, .inl hpu⟩, fun r => ⟨fun e => ?_, fun e => ?_⟩, d + 1, h3, .inr ⟨p, d, rfl, h.lt p h1, h4, rfl⟩⟩
    · obtain ⟨e1, e2 | ⟨c', e2, e3, e4⟩⟩ := e
      · omega
      · obtain rfl : p = c' := by omega
        by_cases hr : r = c
        · exact .inr hr
        · refine .inl ⟨e1, .inr ⟨c, rfl, ?_, fun e => hr e.symm⟩⟩
          rcases h.par hc e1 with k | k
          · exact k
          · rcases (h5 r).1 k with k | k
            · exact absurd k hr
            · exact absurd (h.anti e3 k) e4
    · rcases e with ⟨e1, e2 | ⟨c', e2, e3, e4⟩⟩ | rfl
      · omega
      · obtain rfl : c = c' := by omega
        refine ⟨e1, .inr ⟨p, rfl, h.tr hpc e3, fun e => ?_⟩⟩
        subst e
        exact hne (h.anti hpc e3)
      · exact ⟨hc, .inr ⟨p, rfl, hpc, hne⟩⟩
omit h in
/-- Where one stops. -/
theorem stop_top {u v : Nat} (ha : ∀ r, Past g u (-1) r → Asks g v r) (r : Nat) : Past g u (-1) r ↔ Ov g r u ∧ Asks g v r :=
  ⟨fun e => ⟨e.1, ha r e⟩, fun e => ⟨e.1, .inl rfl⟩⟩
theorem DTree.stop_at {u v c : Nat} (hc : Ov g c u) (hn : ¬ Asks g v c) (ha : ∀ r, Past g u (c : Int) r → Asks g v r) (r : Nat) : Past g u (c : Int) r ↔ Ov g r u ∧ Asks g v r := by
  unfold Asks at hn
  have h1 : c ≠ v := fun e => hn (.inl e)
  have h2 : Ov g c v := Classical.byContradiction fun e => hn (.inr e)
  refine ⟨fun e => ⟨e.1, ha r e⟩, fun e => ⟨e.1, .inr ⟨c, rfl, ?_, ?_⟩⟩⟩
  · rcases h.par hc e.1 with k | k
    · exact k
    · rcases e.2 with e2 | e2
      · subst e2; exact absurd (h.anti h2 k) h1
      · exact absurd (h.tr k h2) e2
  · intro e2
    subst e2
    rcases e.2 with e2 | e2
    · exact h1 e2
    · exact e2 h2
omit h in
theorem stop_out {u v : Nat} (hw : ¬ Way g 0 u) (c : Int) (r : Nat) : Past g u c r ↔ Ov g r u ∧ Asks g v r :=
  ⟨fun e => absurd e.1.2.1 hw, fun e => absurd e.1.2.1 hw⟩
end
/-- The fronts as far as they are made: of the places below k. -/
def FrK (g : Nat → List Nat) (k r x : Nat) : Prop := x < k ∧ FrontR g r x
/-- And of k, by the first j of those ahead of it. -/
def FrJ (g : Nat → List Nat) (l : List Nat) (k j r x : Nat) : Prop := FrK g k r x ∨ (x = k ∧ ∃ u, u ∈ l.take j ∧ Ov g r u ∧ Asks g k r)
theorem frJ_zero {g : Nat → List Nat} {l : List Nat} {k r x : Nat} : FrJ g l k 0 r x ↔ FrK g k r x := by simp [FrJ]
theorem frJ_succ {g : Nat → List Nat} {l : List Nat} {k j u r x : Nat} (hu : l[j]? = some u) : FrJ g l k (j + 1) r x ↔ FrJ g l k j r x ∨ (x = k ∧ Ov g r u ∧ Asks g k r) := by
  unfold FrJ
  rw [List.take_add_one, hu]
  simp only [Option.toList_some, List.mem_append, List.mem_singleton]
  constructor
  · rintro (h | ⟨h1, v, h2 | rfl, h3⟩)
    · exact .inl (.inl h)
    · exact .inl (.inr ⟨h1, v, h2, h3⟩)
    · exact .inr ⟨h1, h3⟩
  · rintro ((h | ⟨h1, v, h2, h3⟩) | ⟨h1, h2⟩)
    · exact .inl h
    · exact .inr ⟨h1, v, .inl h2, h3⟩
    · exact .inr ⟨h1, u, .inr rfl, h2⟩
theorem frJ_end {g : Nat → List Nat} {l : List Nat} {k r x : Nat} (hl : ∀ u, Way g 0 u → (u ∈ l ↔ k ∈ g u)) : FrJ g l k l.length r x ↔ FrK g (k + 1) r x := by
  unfold FrJ FrK
  rw [List.take_length]
  constructor
  · rintro (⟨h1, h2⟩ | ⟨rfl, u, h1, h2, h3⟩)
    · exact ⟨by omega, h2⟩
    · exact ⟨by omega, u, (hl u h2.2.1).1 h1, h2, h3⟩
  · rintro ⟨h1, h2⟩
    by_cases e : x = k
    · subst e
      obtain ⟨u, k1, k2, k3⟩ := h2
      exact .inr ⟨rfl, u, (hl u k2.2.1).2 k1, k2, k3⟩
    · exact .inl ⟨by omega, h2⟩
theorem frK_skip {g : Nat → List Nat} {k r x : Nat} (hn : ¬ Ov g k k) : FrK g (k + 1) r x ↔ FrK g k r x := by
  unfold FrK
  refine ⟨fun ⟨h1, h2⟩ => ⟨?_, h2⟩, fun ⟨h1, h2⟩ => ⟨by omega, h2⟩⟩
  by_cases e : x = k
  · subst e
    obtain ⟨u, k1, k2, k3⟩ := h2
    exact absurd (ov_self (k2.2.1.step k1)) hn
  · omega
theorem frK_end {g : Nat → List Nat} {n r x : Nat} (hn : ∀ v, Way g 0 v → v < n) : FrK g n r x ↔ FrontR g r x := by
  unfold FrK
  refine ⟨fun h => h.2, fun h => ⟨?_, h⟩⟩
  obtain ⟨u, k1, k2, k3⟩ := h
  exact hn x (k2.2.1.step k1)
end LT
end Go.Proofs.Ytnkbbjeepdjamaa
