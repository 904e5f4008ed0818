/- Which places are reached, told by rounds: what a round keeps, and that as many rounds as there are places do. No condition. -/
import Derived.Test.YtnkbbjeepdjamaaGPlain
namespace Go.Proofs.Ytnkbbjeepdjamaa
/-- One comes from the first to a place, without another one. -/
inductive WayO (g : Nat → List Nat) (wo : Int) : Nat → Prop
  | zero : wo ≠ 0 → WayO g wo 0
  | step {a c : Nat} : WayO g wo a → c ∈ g a → (c : Int) ≠ wo → WayO g wo c
def tr (s : List Bool) (i : Nat) : Bool := s.getD i false
def cnt (s : List Bool) : Nat := (s.filter id).length
theorem cnt_le (s : List Bool) : cnt s ≤ s.length := List.length_filter_le _ _
theorem tr_lt {s : List Bool} {i : Nat} (h : tr s i = true) : i < s.length := by
  apply Classical.byContradiction
  intro hn
  unfold tr at h
  rw [List.getD_eq_getElem?_getD, List.getElem?_eq_none (by omega)] at h
  simp at h
theorem tr_set {s : List Bool} {i j : Nat} (hj : j < s.length) : tr (s.set j true) i = (decide (i = j) || tr s i) := by
  unfold tr
  simp only [List.getD_eq_getElem?_getD, List.getElem?_set]
  by_cases e : j = i
  · subst e; simp [hj]
  · have : ¬ i = j := fun h => e h.symm
    simp [e, this]
theorem set_same {s : List Bool} {j : Nat} (h : tr s j = true) : s.set j true = s := by
  have hj := tr_lt h
  apply List.ext_getElem?
  intro k
  rw [List.getElem?_set]
  by_cases e : j = k
  · subst e
    unfold tr at h
    rw [List.getD_eq_getElem?_getD] at h
    rw [if_pos rfl, if_pos hj]
    rw [List.getElem?_eq_getElem hj] at h ⊢
    simp at h
    rw [h]
  · rw [if_neg e]
theorem cnt_mono {s t : List Bool} (hl : s.length = t.length) (h : ∀ i, tr s i = true → tr t i = true) : cnt s ≤ cnt t ∧ ((∃ j, tr t j = true ∧ tr s j = false) → cnt s < cnt t) := by
  induction s generalizing t with
  | nil =>
    have : t = [] := List.eq_nil_of_length_eq_zero hl.symm
    subst this
    exact ⟨Nat.le_refl _, fun ⟨j, h1, _⟩ => by simp [tr] at h1⟩
  | cons b s ih =>
    cases t with
    | nil => simp at hl
    | cons c t =>
      obtain ⟨h1, h2⟩ := ih (t := t) (by simpa using hl) (fun i hi => by have := h (i + 1) (by simpa [tr] using hi); simpa [tr] using this)
      have h0 := h 0
      simp only [tr, List.getD_cons_zero] at h0
      have hc : ∀ (b : Bool) (s : List Bool), cnt (b :: s) = (if b = true then 1 else 0) + cnt s := fun b s => by
        unfold cnt; cases b <;> simp [Nat.add_comm]
      rw [hc, hc]
      refine ⟨by cases b <;> cases c <;> simp_all <;> omega, fun ⟨j, hj1, hj2⟩ => ?_⟩
      cases j with
      | zero => simp [tr] at hj1 hj2; subst hj1; subst hj2; simp; omega
      | succ j =>
        have := h2 ⟨j, by simpa [tr] using hj1, by simpa [tr] using hj2⟩
        cases b <;> cases c <;> simp_all <;> omega
def Closed (g : Nat → List Nat) (wo : Int) (s : List Bool) : Prop := ∀ i j, tr s i = true → j ∈ g i → (j : Int) ≠ wo → tr s j = true
/-- A state of the reckoning. -/
structure RS (g : Nat → List Nat) (wo : Int) (n : Nat) (s : List Bool) : Prop where
  len : s.length = n
  sound : ∀ i, tr s i = true → WayO g wo i
  zero : tr s 0 = true
theorem RS.set {g : Nat → List Nat} {wo : Int} {n : Nat} {s : List Bool} (h : RS g wo n s) {i j : Nat} (hi : tr s i = true) (hj : j ∈ g i) (hw : (j : Int) ≠ wo) (hn : j < n) : RS g wo n (s.set j true) := by
  have hl : j < s.length := by rw [h.len]; exact hn
  refine ⟨by simp [h.len], fun k hk => ?_, by rw [tr_set hl, h.zero]; simp⟩
  rw [tr_set hl] at hk
  by_cases e : k = j
  · subst e; exact (h.sound i hi).step hj hw
  · simp [e] at hk; exact h.sound k hk
/-- In a round: the first rows are done; of the next one some. -/
structure Rnd (g : Nat → List Nat) (wo : Int) (n : Nat) (s0 s : List Bool) (i j : Nat) : Prop where
  rs : RS g wo n s
  more : ∀ x, tr s0 x = true → tr s x = true
  rows : ∀ x, x < i → tr s0 x = true → ∀ c ∈ g x, (c : Int) ≠ wo → tr s c = true
  part : ∀ c ∈ (g i).take j, (c : Int) ≠ wo → tr s c = true
  same : Closed g wo s0 → s = s0
section
variable {g : Nat → List Nat} {wo : Int} {n : Nat} {s0 s : List Bool} {i j : Nat}
theorem Rnd.start (h : RS g wo n s0) : Rnd g wo n s0 s0 0 0 := ⟨h, fun _ h => h, fun x hx => by omega, fun c hc => by simp at hc, fun _ => rfl⟩
theorem Rnd.skip (h : Rnd g wo n s0 s i 0) (hi : tr s i = false) : Rnd g wo n s0 s (i + 1) 0 := by
  refine ⟨h.rs, h.more, fun x hx h0 c hc hw => ?_, fun c hc => by simp at hc, h.same⟩
  rcases Nat.lt_or_ge x i with hx' | hx'
  · exact h.rows x hx' h0 c hc hw
  · obtain rfl : x = i := by omega
    have := h.more x h0
    rw [this] at hi
    cases hi
theorem Rnd.row (h : Rnd g wo n s0 s i j) (hj : (g i).length ≤ j) : Rnd g wo n s0 s (i + 1) 0 := by
  refine ⟨h.rs, h.more, fun x hx h0 c hc hw => ?_, fun c hc => by simp at hc, h.same⟩
  rcases Nat.lt_or_ge x i with hx' | hx'
  · exact h.rows x hx' h0 c hc hw
  · obtain rfl : x = i := by omega
    exact h.part c (by rw [List.take_of_length_le hj]; exact hc) hw
theorem take_snoc'' {α : Type} (l : List α) (k : Nat) (x : α) (h : l[k]? = some x) : l.take (k + 1) = l.take k ++ [x] := by
  rw [List.take_add_one, h]; rfl
theorem Rnd.pass (h : Rnd g wo n s0 s i j) {c : Nat} (hc : (g i)[j]? = some c) (hw : (c : Int) = wo) : Rnd g wo n s0 s i (j + 1) := by
  refine ⟨h.rs, h.more, h.rows, fun d hd hdw => ?_, h.same⟩
  rw [take_snoc'' _ _ _ hc] at hd
  rcases List.mem_append.1 hd with hd | hd
  · exact h.part d hd hdw
  · simp at hd; subst hd; exact absurd hw hdw
theorem Rnd.put (h : Rnd g wo n s0 s i j) {c : Nat} (hi : tr s i = true) (hc : (g i)[j]? = some c) (hw : (c : Int) ≠ wo) (hn : c < n) : Rnd g wo n s0 (s.set c true) i (j + 1) := by
  have hl : c < s.length := by rw [h.rs.len]; exact hn
  refine ⟨h.rs.set hi (List.mem_of_getElem? hc) hw hn, fun x hx => ?_, fun x hx h0 d hd hdw => ?_, fun d hd hdw => ?_, fun hcl => ?_⟩
  · rw [tr_set hl, h.more x hx]; simp
  · rw [tr_set hl, h.rows x hx h0 d hd hdw]; simp
  · rw [tr_set hl]
    rw [take_snoc'' _ _ _ hc] at hd
    rcases List.mem_append.1 hd with hd | hd
    · rw [h.part d hd hdw]; simp
    · simp at hd; subst hd; simp
  · have e := h.same hcl
    subst e
    exact set_same (hcl i c hi (List.mem_of_getElem? hc) hw)
/-- Behind a round: nothing is left to do, or there are more. -/
theorem Rnd.fin (h : Rnd g wo n s0 s n 0) (hl : s0.length = n) (k : Nat) (hk : Closed g wo s0 ∨ k + 1 ≤ cnt s0) : Closed g wo s ∨ k + 2 ≤ cnt s := by
  by_cases hc : Closed g wo s0
  · left; rw [h.same hc]; exact hc
  · right
    have hk' := hk.resolve_left hc
    unfold Closed at hc
    simp only [Classical.not_forall] at hc
    obtain ⟨i, j, h1, h2, h3, h4⟩ := hc
    have hi : i < n := by rw [← hl]; exact tr_lt h1
    have := (cnt_mono (by rw [hl, h.rs.len]) h.more).2 ⟨j, h.rows i hi h1 j h2 h3, by simpa using h4⟩
    omega
/-- When as many rounds are done as there are places. -/
theorem RS.done (h : RS g wo n s) (hk : Closed g wo s ∨ n + 1 ≤ cnt s) (i : Nat) : tr s i = true ↔ WayO g wo i := by
  have hc : Closed g wo s := hk.resolve_right (by have := cnt_le s; rw [h.len] at this; omega)
  refine ⟨h.sound i, fun hw => ?_⟩
  induction hw with
  | zero => exact h.zero
  | step _ h1 h2 ih => exact hc _ _ ih h1 h2
end
/-- Without any: the ways. -/
theorem wayO_all (g : Nat → List Nat) (i : Nat) : WayO g (-1) i ↔ Way g 0 i := by
  constructor
  · intro h
    induction h with
    | zero => exact .refl 0
    | step _ hc _ ih => exact ih.step hc
  · intro h
    induction h with
    | refl => exact .zero (by decide)
    | step _ hc ih => exact ih.step hc (by omega)
end Go.Proofs.Ytnkbbjeepdjamaa
