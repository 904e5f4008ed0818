/- Dominators, plain: those over a place stand in a row. No condition. -/
import Derived.Test.YtnkbbjeepdjamaaDOut
namespace Go.Proofs.Ytnkbbjeepdjamaa
namespace LT
section
variable {g : Nat → List Nat} {n : Nat} {up deep : List Int} (h : DTree g n up deep)
include h
/-- Those over a place: as many as it is deep, and one. -/
theorem DTree.row : ∀ (d v : Nat), Way g 0 v → deep[v]? = some (d : Int) → ∃ c : List Nat, c.length = d + 1 ∧ c.Nodup ∧ ∀ a, a ∈ c ↔ Ov g a v
  | d, v, hw, hd => by
    by_cases h0 : v = 0
    · subst h0
      have hz := h.zero.2
      rw [hd] at hz
      have hd0 : d = 0 := by have := Option.some.inj hz; omega
      refine ⟨[0], by simp [hd0], by simp, fun a => ?_⟩
      rw [List.mem_singleton]
      refine ⟨fun e => by subst e; exact ov_self hw, fun ho => Classical.byContradiction fun hn => ho.2.2 (.zero (by omega))⟩
    · obtain ⟨u, d', h1, h2, h3, h4, h5⟩ := h.near v hw h0
      rw [hd] at h3
      have e := Option.some.inj h3
      obtain ⟨c, c1, c2, c3⟩ := DTree.row d' u h1 h4
      refine ⟨v :: c, by simp; omega, List.nodup_cons.2 ⟨fun hm => ?_, c2⟩, fun a => by rw [List.mem_cons, c3, h5]⟩
      have := (h.le d' v u (d : Int) ((c3 v).1 hm) h4 hd).1
      omega
termination_by d => d
decreasing_by omega
theorem DTree.pair : ∀ (d v a b : Nat), deep[v]? = some (d : Int) → Ov g a v → Ov g b v → Ov g a b ∨ Ov g b a
  | d, v, a, b, hd, ha, hb => by
    by_cases h0 : v = 0
    · subst h0
      have ea : a = 0 := Classical.byContradiction fun hn => ha.2.2 (.zero (by omega))
      subst ea
      exact .inr hb
    · obtain ⟨u, d', h1, h2, h3, h4, h5⟩ := h.near v ha.2.1 h0
      rw [hd] at h3
      have e := Option.some.inj h3
      rcases (h5 a).1 ha with rfl | ha'
      · exact .inr hb
      · rcases (h5 b).1 hb with rfl | hb'
        · exact .inl ha
        · exact DTree.pair d' u a b h4 ha' hb'
termination_by d => d
decreasing_by omega
end
/-- Those below k that are over v. -/
noncomputable def overs (g : Nat → List Nat) (v k : Nat) : List Nat := (List.range k).filter (fun a => @decide (Ov g a v) (Classical.propDecidable _))
theorem overs_succ (g : Nat → List Nat) (v k : Nat) : (Ov g k v → (overs g v (k + 1)).length = (overs g v k).length + 1) ∧ (¬ Ov g k v → (overs g v (k + 1)).length = (overs g v k).length) := by
  unfold overs
  rw [List.range_succ, List.filter_append]
  constructor
  · intro h; simp [h]
  · intro h; simp [h]
theorem overs_le (g : Nat → List Nat) (v k : Nat) : (overs g v k).length ≤ k := by
  unfold overs
  exact Nat.le_trans (List.length_filter_le _ _) (by simp)
theorem DTree.many {g : Nat → List Nat} {n : Nat} {up deep : List Int} (h : DTree g n up deep) {d v : Nat} (hw : Way g 0 v) (hd : deep[v]? = some (d : Int)) : (overs g v n).length = d + 1 := by
  obtain ⟨c, c1, c2, c3⟩ := h.row d v hw hd
  have hp : (overs g v n).Perm c := (List.perm_ext_iff_of_nodup (List.Pairwise.filter _ List.nodup_range) c2).2 (fun a => by
    rw [c3]
    try unfold overs
    rw [List.mem_filter, List.mem_range]
    simp only [decide_eq_true_eq]
    exact ⟨fun e => e.2, fun e => ⟨h.lt a e.1, e⟩⟩)
  rw [hp.length_eq, c1]
theorem overs_none {g : Nat → List Nat} {v : Nat} (hn : ¬ Way g 0 v) (k : Nat) : (overs g v k).length = 0 := by
  induction k with
  | zero => rfl
  | succ k ih => rw [(overs_succ g v k).2 (fun e => hn e.2.1), ih]
/-- One over one over a place is over it. -/
theorem DTree.trans {g : Nat → List Nat} {n : Nat} {up deep : List Int} (h : DTree g n up deep) : ∀ (d v a b : Nat), deep[v]? = some (d : Int) → Ov g a v → Ov g b a → Ov g b v
  | d, v, a, b, hd, ha, hb => by
    by_cases h0 : v = 0
    · subst h0
      have e : a = 0 := Classical.byContradiction fun hn => ha.2.2 (.zero (by omega))
      subst e
      exact hb
    · obtain ⟨u, d', h1, h2, h3, h4, h5⟩ := h.near v ha.2.1 h0
      rw [hd] at h3
      have e := Option.some.inj h3
      rcases (h5 a).1 ha with rfl | ha'
      · exact hb
      · exact (h5 b).2 (.inr (DTree.trans h d' u a b h4 ha' hb))
termination_by d => d
decreasing_by omega
/-- One step up from one over v. -/
theorem DTree.step {g : Nat → List Nat} {n : Nat} {up deep : List Int} (h : DTree g n up deep) {dv v c dc : Nat} (hd : deep[v]? = some (dv : Int)) (ho : Ov g c v) (hc : deep[c]? = some (dc : Int)) :
    ∃ x : Int, up[c]? = some x ∧ ((dc = 0 ∧ x = -1) ∨ ∃ u d' : Nat, x = (u : Int) ∧ u < n ∧ Ov g u v ∧ dc = d' + 1 ∧ deep[u]? = some (d' : Int)) := by
  by_cases h0 : c = 0
  · subst h0
    have hz := h.zero.2
    rw [hc] at hz
    exact ⟨-1, h.zero.1, .inl ⟨by have := Option.some.inj hz; omega, rfl⟩⟩
  · obtain ⟨u, d', h1, h2, h3, h4, h5⟩ := h.near c ho.1 h0
    rw [hc] at h3
    have e := Option.some.inj h3
    exact ⟨(u : Int), h2, .inr ⟨u, d', rfl, h.lt u h1, h.trans dv v c u hd ho ((h5 u).2 (.inr (ov_self h1))), by omega, h4⟩⟩
end LT
end Go.Proofs.Ytnkbbjeepdjamaa
