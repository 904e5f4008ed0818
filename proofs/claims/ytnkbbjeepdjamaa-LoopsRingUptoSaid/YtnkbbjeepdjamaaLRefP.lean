/- A head's loop told by rounds over all pairs of places, plain. No condition. -/
import Derived.Test.YtnkbbjeepdjamaaLBod
import Derived.Test.YtnkbbjeepdjamaaM1
namespace Go.Proofs.Ytnkbbjeepdjamaa
open Go.RowKit
/-- One pair: u is to be in, if v is. -/
def Pr (g : Nat → List Nat) (h : Nat) (row : List Bool) (v u : Nat) : Prop := v ≠ h ∧ tr row v = true ∧ v ∈ g u ∧ LT.Ov g u u
/-- In a round: of the places below i all pairs were looked at. -/
structure BPf (g : Nat → List Nat) (h n : Nat) (row0 : List Bool) (i : Nat) (row : List Bool) : Prop where
  len : row.length = n
  sound : ∀ v, tr row v = true → LB g h v
  keep : ∀ v, tr row0 v = true → tr row v = true
  mono : cnt row0 ≤ cnt row
  same : cnt row = cnt row0 → row = row0 ∧ ∀ v u, v < i → u < n → Pr g h row v u → tr row u = true
/-- And of i's the pairs below j. -/
structure BPg (g : Nat → List Nat) (h n : Nat) (row0 : List Bool) (i j : Nat) (row : List Bool) : Prop where
  ps : BPf g h n row0 i row
  part : cnt row = cnt row0 → ∀ u, u < j → Pr g h row i u → tr row u = true
section
variable {g : Nat → List Nat} {h n i j : Nat} {row0 row : List Bool}
theorem BPf.start (hl : row0.length = n) (hs : ∀ v, tr row0 v = true → LB g h v) : BPf g h n row0 0 row0 :=
  ⟨hl, hs, fun _ e => e, Nat.le_refl _, fun _ => ⟨rfl, fun v u hv => by omega⟩⟩
theorem BPf.enter (H : BPf g h n row0 i row) : BPg g h n row0 i 0 row := ⟨H, fun _ u hu => by omega⟩
theorem BPg.skip (H : BPg g h n row0 i j row) (hn : Pr g h row i j → tr row j = true) : BPg g h n row0 i (j + 1) row :=
  ⟨H.ps, fun e u hu hp => by
    by_cases e2 : u = j
    · subst e2; exact hn hp
    · exact H.part e u (by omega) hp⟩
theorem BPg.leave (H : BPg g h n row0 i n row) : BPf g h n row0 (i + 1) row :=
  ⟨H.ps.len, H.ps.sound, H.ps.keep, H.ps.mono, fun e => ⟨(H.ps.same e).1, fun v u hv hu hp => by
    by_cases e2 : v = i
    · subst e2; exact H.part e u hu hp
    · exact (H.ps.same e).2 v u (by omega) hu hp⟩⟩
theorem BPg.put (H : BPg g h n row0 i j row) (hj : j < n) (hp : Pr g h row i j) : BPg g h n row0 i (j + 1) (row.set j true) := by
  by_cases hf : tr row j = true
  · have e : row.set j true = row := by
      have hl := H.ps.len
      apply List.ext_getElem?
      intro k
      rw [List.getElem?_set]
      split
      · rename_i e
        subst e
        rw [if_pos (by omega)]
        unfold tr at hf
        rw [List.getD_eq_getElem?_getD, List.getElem?_eq_getElem (by omega)] at hf
        rw [List.getElem?_eq_getElem (by omega)]
        simp at hf
        rw [hf]
      · rfl
    rw [e]
    exact H.skip (fun _ => hf)
  · have hf2 : tr row j = false := by simpa using hf
    have hl := H.ps.len
    have hset : ∀ v, tr (row.set j true) v = (decide (v = j) || tr row v) := fun v => tr_set (by omega)
    have hm : ∀ v, tr row v = true → tr (row.set j true) v = true := fun v hv => by rw [hset, hv]; simp
    have hc := cnt_mono (s := row) (t := row.set j true) (by simp) hm
    have hlt := hc.2 ⟨j, by rw [hset]; simp, hf2⟩
    have hmo := H.ps.mono
    refine ⟨⟨by simp [hl], fun v hv => ?_, fun v hv => hm v (H.ps.keep v hv), by omega, fun e => by omega⟩, fun e => by omega⟩
    rw [hset] at hv
    by_cases e : v = j
    · subst e
      exact .step (H.ps.sound i hp.2.1) hp.1 hp.2.2.1 hp.2.2.2
    · exact H.ps.sound v (by simpa [e] using hv)
/-- A round's end: all is in, or one more was. -/
theorem BPf.fin (H : BPf g h n row0 n row) : cnt row0 < cnt row ∨ (row = row0 ∧ ∀ v u, v < n → u < n → Pr g h row v u → tr row u = true) := by
  by_cases e : cnt row = cnt row0
  · exact .inr (H.same e)
  · exact .inl (by have := H.mono; omega)
/-- Where all pairs are shut. -/
theorem shut_all (hn : ∀ v u, v ∈ g u → u < n ∧ v < n) (hh : tr row h = true) (hb : ∀ u, h ∈ g u → LT.Ov g h u → tr row u = true) (hs : ∀ v, tr row v = true → LB g h v) (hc : ∀ v u, v < n → u < n → Pr g h row v u → tr row u = true) (v : Nat) : tr row v = true ↔ LB g h v := by
  refine ⟨hs v, fun hv => ?_⟩
  induction hv with
  | head => exact hh
  | back h1 h2 => exact hb _ h1 h2
  | step _ h1 h2 h3 ih => exact hc _ _ (hn _ _ h2).2 (hn _ _ h2).1 ⟨h1, ih, h2, h3⟩
end
end Go.Proofs.Ytnkbbjeepdjamaa
