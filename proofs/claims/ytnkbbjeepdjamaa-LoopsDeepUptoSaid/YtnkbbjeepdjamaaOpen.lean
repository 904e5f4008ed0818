/- Arguments opened to cells: a slice of structs of three bytes, a slice of numbers. Conditions: the types' forms, as hypotheses. -/
import Derived.Deep.Slices
import Derived.Deep.Fields
import Derived.ChangeSame
import Derived.ChangeSlices
import Derived.WideShapes
namespace Go.Proofs.Ytnkbbjeepdjamaa
open Go.ChangeShapes Go.WideShapes Go.Deep
section
variable {H : Type} {enc : TypeId × Value → H} {P : Program} {w : World} {base : Nat} {spare : Nat → Bool} {held : Bool}
theorem cell_addr {a : Addr} {v : Value} (h : w.cell? a = some v) : a.spot = none ∧ a.block < w.heap.size := by
  refine ⟨?_, World.block_lt_of_cell? w a h⟩
  · unfold World.cell? at h
    split at h
    · split at h
      · cases h
      · rename_i hs
        cases hh : a.spot with
        | none => rfl
        | some x => rw [hh] at hs; simp at hs
    · cases h
theorem add_none {g o i : Nat} : (⟨g, o, none⟩ : Addr).add i = ⟨g, o + i, none⟩ := by
  unfold Addr.add; split
  · simp_all
  · rfl
theorem open_acts {r : Reach} {b0 : Nat} {t e : TypeId} {f0 f1 f2 : Field} {v : Value} {d : DataW H} {ps : List MemPlace} (ht : P.underlying t = some (.slice e)) (he : P.underlying e = some (.struct #[f0, f1, f2]))
    (hone : oneCellFields P #[f0, f1, f2] = true) (hC : P.cellsOf e = 3) (k0 : P.underlying f0.type = some (.int .u8)) (k1 : P.underlying f1.type = some (.int .u8)) (k2 : P.underlying f2.type = some (.int .u8))
    (hval : Value.okWide P w r b0 t v) (hd : DataW.Trod enc P w base spare held t v d ps) :
    ∃ A n c, v = .slice A n c ∧ n ≤ c ∧ c ≤ maxLen ∧ ∀ k, k < n → ∃ g o a b d, A = some ⟨g, o, none⟩ ∧ g < w.heap.size ∧ w.cell? ⟨g, o + k * 3, none⟩ = some (.int .u8 a) ∧ w.cell? ⟨g, o + k * 3 + 1, none⟩ = some (.int .u8 b) ∧ w.cell? ⟨g, o + k * 3 + 2, none⟩ = some (.int .u8 d) ∧
      (0 ≤ a ∧ a ≤ 255) ∧ (0 ≤ b ∧ b ≤ 255) ∧ 0 ≤ d ∧ d ≤ 255 := by
  obtain ⟨A, n, c, rfl⟩ := okWide_slice ht hval
  obtain ⟨fuel, hf⟩ := hd
  rcases DataW.trod_slice ht hf with ⟨h0, _⟩ | ⟨a, len, cap, elems, rest, m, _, hcs, _, hb, hl, hm, hlen, hel, hsp, hns⟩
  · simp [Value.cells] at h0
    obtain ⟨rfl, rfl, rfl⟩ := h0
    exact ⟨none, 0, 0, rfl, by omega, by unfold maxLen; omega, fun k hk => by omega⟩
  · simp [Value.cells] at hcs
    obtain ⟨rfl, rfl, rfl⟩ := hcs
    have each : ∀ k, k < n → ∃ z0 z1 z2, w.cell? (a.add (k * 3)) = some (.int .u8 z0) ∧ w.cell? (a.add (k * 3 + 1)) = some (.int .u8 z1) ∧ w.cell? (a.add (k * 3 + 2)) = some (.int .u8 z2) ∧
        (0 ≤ z0 ∧ z0 ≤ 255) ∧ (0 ≤ z1 ∧ z1 ≤ 255) ∧ 0 ≤ z2 ∧ z2 ≤ 255 := by
      intro k hk
      have hb' := hel k hk
      have hey : ∃ y, elems[k]? = some y := ⟨_, List.getElem?_eq_getElem (by omega)⟩
      obtain ⟨y, hy⟩ := hey
      rw [hy, hC, Option.bind_eq_some_iff] at hb'
      obtain ⟨cs', hcs, ht'⟩ := hb'
      obtain ⟨ys, n', hn', hyy, hlen', hyl, hf'⟩ := DataW.trod_struct he ht'
      obtain ⟨_, hcl, hat⟩ := World.cells?_some hcs
      match cs', hcl with
      | [c0, c1, c2], _ =>
      obtain ⟨o0, q0⟩ := hone_of hone 0 f0 rfl
      obtain ⟨o1, q1⟩ := hone_of hone 1 f1 rfl
      obtain ⟨o2, q2⟩ := hone_of hone 2 f2 rfl
      have g0 := hf' 0 f0 rfl
      have g1 := hf' 1 f1 rfl
      have g2 := hf' 2 f2 rfl
      rw [o0, q0] at g0; rw [o1, q1] at g1; rw [o2, q2] at g2
      simp only [List.drop_zero, List.drop_succ_cons, List.take_succ_cons, List.take_zero] at g0 g1 g2
      match ys, hyl with
      | [y0, y1, y2], _ =>
      obtain ⟨z0, e0, _, w0⟩ := DataW.trod_int k0 g0
      obtain ⟨z1, e1, _, w1⟩ := DataW.trod_int k1 g1
      obtain ⟨z2, e2, _, w2⟩ := DataW.trod_int k2 g2
      cases e0; cases e1; cases e2
      have a0 := hat 0 (by omega)
      have a1 := hat 1 (by omega)
      have a2 := hat 2 (by omega)
      rw [Go.Deep.add_add] at a0 a1 a2
      refine ⟨z0, z1, z2, a0, a1, a2, ?_⟩
      simp [Lit.wf, IntKind.min, IntKind.max, IntKind.signed, IntKind.bits] at w0 w1 w2
      omega
    refine ⟨some a, n, c, rfl, hl, hm, fun k hk => ?_⟩
    obtain ⟨_, _, _, h0, _⟩ := each 0 (by omega)
    obtain ⟨z0, z1, z2, a0, a1, a2, hz⟩ := each k hk
    obtain ⟨g, o, s⟩ := a
    obtain ⟨hs, hlt⟩ := cell_addr h0
    simp [Addr.add] at hs hlt
    subst hs
    rw [add_none] at a0 a1 a2
    exact ⟨g, o, z0, z1, z2, rfl, hlt, a0, a1, a2, hz⟩

theorem open_nums {r : Reach} {b0 : Nat} {t e : TypeId} {k : IntKind} {v : Value} {d : DataW H} {ps : List MemPlace} (ht : P.underlying t = some (.slice e)) (he : P.underlying e = some (.int k)) (hc : P.cellsOf e = 1)
    (hval : Value.okWide P w r b0 t v) (hd : DataW.Trod enc P w base spare held t v d ps) :
    ∃ A n c, ∃ zs : List Int, v = .slice A n c ∧ n ≤ c ∧ c ≤ maxLen ∧ zs.length = n ∧ (∀ z ∈ zs, (Lit.int k z).wf = true) ∧
      ∀ (i : Nat) (hi : i < zs.length), ∃ g o, A = some ⟨g, o, none⟩ ∧ g < w.heap.size ∧ w.cell? ⟨g, o + i, none⟩ = some (.int k zs[i]) := by
  obtain ⟨A, n, c, rfl⟩ := okWide_slice ht hval
  obtain ⟨fuel, hf⟩ := hd
  rcases open_ints ht he hc hf with ⟨h0, _⟩ | ⟨a, len, cap, zs, hcs, hb, hl, hm, hlen, _, hcell, hwf⟩
  · simp [Value.cells] at h0
    obtain ⟨rfl, rfl, rfl⟩ := h0
    exact ⟨none, 0, 0, [], rfl, by omega, by unfold maxLen; omega, rfl, by simp, fun i hi => absurd hi (by simp)⟩
  · simp [Value.cells] at hcs
    obtain ⟨rfl, rfl, rfl⟩ := hcs
    have hge : n ≤ zs.length := by rw [hlen]; split <;> omega
    refine ⟨some a, n, c, zs.take n, rfl, hl, hm, by simp; omega, fun z hz => hwf z (List.mem_of_mem_take hz), fun i hi => ?_⟩
    have hi' : i < n ∧ i < zs.length := by simp at hi; omega
    have h := hcell i hi'.2
    obtain ⟨hs, hlt⟩ := cell_addr (hcell 0 (by omega))
    obtain ⟨g, o, s⟩ := a
    simp [Addr.add] at hs hlt
    subst hs
    rw [add_none] at h
    refine ⟨g, o, rfl, hlt, ?_⟩
    rw [h]; simp [List.getD_eq_getElem?_getD, List.getElem?_eq_getElem hi'.2]
end
end Go.Proofs.Ytnkbbjeepdjamaa
