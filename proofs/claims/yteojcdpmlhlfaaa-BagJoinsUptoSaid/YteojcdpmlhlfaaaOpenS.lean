/- Arguments opened to cells: a slice of texts. Conditions: the types' forms, as hypotheses. -/
import Derived.SliceStrings
import Derived.Test.YteojcdpmlhlfaaaOpen
namespace Go.Proofs.Yteojcdpmlhlfaaa
open Go.ChangeShapes Go.WideShapes Go.Deep
section
variable {H : Type} {enc : TypeId × Value → H} {P : Program} {w : World} {base : Nat} {spare : Nat → Bool} {held : Bool}
theorem open_texts {r : Reach} {b0 : Nat} {t e : TypeId} {v : Value} {d : DataW H} {ps : List MemPlace} (ht : P.underlying t = some (.slice e)) (he : P.underlying e = some .string) (hc : P.cellsOf e = 1)
    (hval : Value.okWide P w r b0 t v) (hd : DataW.Trod enc P w base spare held t v d ps) :
    ∃ A n c, ∃ zs : List ByteArray, v = .slice A n c ∧ n ≤ c ∧ c ≤ maxLen ∧ zs.length = n ∧
      ∀ (i : Nat) (hi : i < zs.length), ∃ g o, A = some ⟨g, o, none⟩ ∧ w.cell? ⟨g, o + i, none⟩ = some (.string zs[i]) := by
  obtain ⟨A, n, c, rfl⟩ := okWide_slice ht hval
  obtain ⟨fuel, hf⟩ := hd
  rcases open_strings ht he hc hf with ⟨h0, _⟩ | ⟨a, len, cap, zs, hcs, hb, hl, hm, hlen, _, hcell, hwf⟩
  · simp [Value.cells] at h0
    obtain ⟨rfl, rfl, rfl⟩ := h0
    exact ⟨none, 0, 0, [], rfl, by omega, by unfold maxLen; omega, rfl, fun i hi => absurd hi (by simp)⟩
  · simp [Value.cells] at hcs
    obtain ⟨rfl, rfl, rfl⟩ := hcs
    have hge : n ≤ zs.length := by rw [hlen]; split <;> omega
    refine ⟨some a, n, c, zs.take n, rfl, hl, hm, by simp; omega, fun i hi => ?_⟩
    have hi' : i < n ∧ i < zs.length := by simp at hi; omega
    have h := hcell i hi'.2
    obtain ⟨hs, hlt⟩ := cell_addr (hcell 0 (by omega))
    obtain ⟨g, o, s⟩ := a
    simp [Addr.add] at hs hlt
    subst hs
    rw [add_none] at h
    refine ⟨g, o, rfl, ?_⟩
    rw [h]; simp [List.getD_eq_getElem?_getD, List.getElem?_eq_getElem hi'.2]
end
end Go.Proofs.Yteojcdpmlhlfaaa
