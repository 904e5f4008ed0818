/- Fronts of some places, again and again, told by rounds over all places, plain. No condition. -/
import Derived.Test.YtnkbbjeepdjamaaFrCl
import Derived.Test.YtnkbbjeepdjamaaM1
namespace Go.Proofs.Ytnkbbjeepdjamaa
open Go.RowKit
/-- Is a place given, or come to? -/
def Act1 (st : List Int) (row : List Bool) (i : Nat) : Prop := tr row i = true ∨ (i : Int) ∈ st
def Shut1 (R : Nat → Nat → Prop) (st : List Int) (n : Nat) (row : List Bool) (i : Nat) : Prop := Act1 st row i → ∀ v, v < n → R i v → tr row v = true
/-- In a round: the places below i were looked at. -/
structure PSf (R : Nat → Nat → Prop) (st : List Int) (n : Nat) (row0 : List Bool) (i : Nat) (b : Bool) (row : List Bool) : Prop where
  len : row.length = n
  sound : ∀ v, tr row v = true → Cl R n (fun z => z ∈ st) v
  ch : b = true → cnt row0 < cnt row
  mono : cnt row0 ≤ cnt row
  same : b = false → row = row0 ∧ ∀ r, r < i → Shut1 R st n row r
/-- And of i's front the places below j. -/
structure PSg (R : Nat → Nat → Prop) (st : List Int) (n : Nat) (row0 : List Bool) (i j : Nat) (b : Bool) (row : List Bool) : Prop where
  ps : PSf R st n row0 i b row
  act : Act1 st row i
  part : b = false → ∀ v, v < j → R i v → tr row v = true
section
variable {R : Nat → Nat → Prop} {st : List Int} {n : Nat} {row0 row : List Bool} {i j : Nat} {b : Bool}
theorem PSf.start (hl : row0.length = n) (hs : ∀ v, tr row0 v = true → Cl R n (fun z => z ∈ st) v) : PSf R st n row0 0 false row0 :=
  ⟨hl, hs, (fun e => by cases e), Nat.le_refl _, fun _ => ⟨rfl, fun r hr => by omega⟩⟩
theorem PSf.skip (h : PSf R st n row0 i b row) (hn : ¬ Act1 st row i) : PSf R st n row0 (i + 1) b row :=
  ⟨h.len, h.sound, h.ch, h.mono, fun e => ⟨(h.same e).1, fun r hr => by
    by_cases e2 : r = i
    · subst e2; exact fun k => absurd k hn
    · exact (h.same e).2 r (by omega)⟩⟩
theorem PSf.enter (h : PSf R st n row0 i b row) (ha : Act1 st row i) : PSg R st n row0 i 0 b row := ⟨h, ha, fun _ v hv => by omega⟩
theorem PSg.skip (h : PSg R st n row0 i j b row) (hn : R i j → tr row j = true) : PSg R st n row0 i (j + 1) b row :=
  ⟨h.ps, h.act, fun e v hv hr => by
    by_cases e2 : v = j
    · subst e2; exact hn hr
    · exact h.part e v (by omega) hr⟩
theorem PSg.leave (h : PSg R st n row0 i n b row) : PSf R st n row0 (i + 1) b row :=
  ⟨h.ps.len, h.ps.sound, h.ps.ch, h.ps.mono, fun e => ⟨(h.ps.same e).1, fun r hr => by
    by_cases e2 : r = i
    · subst e2; exact fun _ v hv hrv => h.part e v hv hrv
    · exact (h.ps.same e).2 r (by omega)⟩⟩
/-- A new place is come to. -/
theorem PSg.put (h : PSg R st n row0 i j b row) (hi : i < n) (hj : j < n) (hr : R i j) (hf : tr row j = false) : PSg R st n row0 i (j + 1) true (row.set j true) := by
  have hl := h.ps.len
  have hset : ∀ v, tr (row.set j true) v = (decide (v = j) || tr row v) := fun v => tr_set (by omega)
  have hm : ∀ v, tr row v = true → tr (row.set j true) v = true := fun v hv => by rw [hset, hv]; simp
  have hc := cnt_mono (s := row) (t := row.set j true) (by simp) hm
  have hlt := hc.2 ⟨j, by rw [hset]; simp, hf⟩
  refine ⟨⟨by simp [hl], fun v hv => ?_, fun _ => by have := h.ps.mono; omega, by have := h.ps.mono; omega, fun e => by cases e⟩, h.act.imp (hm i) id, fun e => by cases e⟩
  rw [hset] at hv
  by_cases e : v = j
  · subst e
    rcases h.act with ha | ha
    · exact .step (h.ps.sound i ha) hi hr
    · exact .base ha hi hr
  · exact h.ps.sound v (by simpa [e] using hv)
/-- Where a round finds nothing. -/
theorem PSf.fin (h : PSf R st n row0 n false row) (hR : ∀ r v, R r v → v < n) (v : Nat) : tr row v = true ↔ Cl R n (fun z => z ∈ st) v := by
  have hs := (h.same rfl).2
  constructor
  · exact h.sound v
  · intro hc
    induction hc with
    | base k hv hr => exact hs _ hv (.inr k) _ (hR _ _ hr) hr
    | step _ hv hr ih => exact hs _ hv (.inl ih) _ (hR _ _ hr) hr
end
end Go.Proofs.Ytnkbbjeepdjamaa
