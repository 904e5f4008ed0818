/- Dominators, plain: numbers depth first; half-dominators; which places each way goes through. No condition. -/
namespace Go.Proofs.Ytnkbbjeepdjamaa
namespace LT
/-- Numbers depth first: A tells who is above whom in the tree, p the parent. -/
structure Dfs (N : Nat) (E : Nat → Nat → Prop) (A : Nat → Nat → Prop) (p : Nat → Nat) : Prop where
  le : ∀ i j, A i j → i ≤ j ∧ j < N
  refl : ∀ i, i < N → A i i
  trans : ∀ i j k, A i j → A j k → A i k
  int : ∀ a b c, A a c → a ≤ b → b ≤ c → A a b
  par : ∀ j, 0 < j → j < N → p j < j ∧ A (p j) j
  up : ∀ i j, A i j → i ≠ j → A i (p j)
  ed : ∀ i j, E i j → i < N ∧ j < N
  fwd : ∀ i j, E i j → i < j → A i j
  tree : ∀ j, 0 < j → j < N → E (p j) j
/-- Reached from the first without going through a. -/
inductive RA (E : Nat → Nat → Prop) (a : Nat) : Nat → Prop
  | root : a ≠ 0 → RA E a 0
  | step {t u : Nat} : RA E a t → E t u → u ≠ a → RA E a u
/-- From x one comes to w over greater numbers. -/
inductive Up (E : Nat → Nat → Prop) (w : Nat) : Nat → Prop
  | base {x : Nat} : E x w → Up E w x
  | step {x y : Nat} : E x y → w < y → Up E w y → Up E w x
def IsSd (E : Nat → Nat → Prop) (w s : Nat) : Prop := Up E w s ∧ ∀ x, Up E w x → s ≤ x
theorem ra_self {E : Nat → Nat → Prop} {a : Nat} (hr : RA E a a) : False := by
  cases hr with
  | root h => exact h rfl
  | step _ _ h => exact h rfl
theorem ra_up {E : Nat → Nat → Prop} {a y x : Nat} (hu : Up E y x) (hr : RA E a x) (hy : a < y) : RA E a y := by
  induction hu with
  | base he => exact .step hr he (by omega)
  | step he hlt _ ih => exact ih (.step hr he (by omega))
/-- m has the least half-dominator of those between s and w (w, too). -/
def Arg (A : Nat → Nat → Prop) (sd : Nat → Nat) (s w m : Nat) : Prop := A s m ∧ s ≠ m ∧ A m w ∧ ∀ y, A s y → s ≠ y → A y w → sd m ≤ sd y
section
variable {N : Nat} {E A : Nat → Nat → Prop} {p : Nat → Nat} (h : Dfs N E A p)
include h
theorem ra_tree {a w : Nat} (hw : w < N) (ha : ¬ A a w) : RA E a w := by
  induction w using Nat.strongRecOn with
  | _ w ih =>
    by_cases h0 : w = 0
    · subst h0
      exact .root (fun e => ha (by subst e; exact h.refl _ hw))
    · have hp := h.par w (by omega) hw
      exact .step (ih (p w) hp.1 (by omega) (fun hc => ha (h.trans _ _ _ hc hp.2))) (h.tree w (by omega) hw) (fun e => ha (by subst e; exact h.refl _ hw))
theorem ra_down {a y w : Nat} (hy : a < y) (hr : RA E a y) (ha : A y w) : RA E a w := by
  induction w using Nat.strongRecOn with
  | _ w ih =>
    by_cases hne : y = w
    · subst hne; exact hr
    · have h1 := h.le _ _ ha
      have hp := h.par w (by omega) h1.2
      exact .step (ih (p w) hp.1 (h.up _ _ ha hne)) (h.tree w (by omega) h1.2) (by omega)
/-- Over greater numbers one comes from above. -/
theorem up_anc {w x : Nat} (hu : Up E w x) (hx : x ≤ w) : A x w := by
  cases hu with
  | base he =>
    rcases Nat.lt_or_ge x w with hl | hl
    · exact h.fwd _ _ he hl
    · obtain rfl : x = w := by omega
      exact h.refl _ (h.ed _ _ he).1
  | step he hlt _ => exact h.int _ _ _ (h.fwd _ _ he (by omega)) hx (by omega)
theorem sd_lt {w s : Nat} (h0 : 0 < w) (hw : w < N) (hs : IsSd E w s) : s < w ∧ A s w := by
  have h1 := hs.2 _ (.base (h.tree w h0 hw))
  have h2 := h.par w h0 hw
  exact ⟨by omega, up_anc h hs.1 (by omega)⟩
/-- A half-dominator comes from a way straight from ahead, or from one of those above who is ahead. -/
theorem up_cases {w x : Nat} (hu : Up E w x) : E x w ∨ ∃ u v, w < u ∧ A u v ∧ E v w ∧ Up E u x := by
  induction hu with
  | base he => exact .inl he
  | @step x y he hlt hu' ih =>
    have hy := h.ed _ _ he
    rcases ih with ih | ⟨u, v, h1, h2, h3, h4⟩
    · exact .inr ⟨y, y, hlt, h.refl _ hy.2, ih, .base he⟩
    · by_cases huy : u < y
      · exact .inr ⟨u, v, h1, h2, h3, .step he huy h4⟩
      · exact .inr ⟨y, v, hlt, h.trans _ _ _ (up_anc h h4 (by omega)) h2, h3, .base he⟩
theorem up_walk {w u v : Nat} (hwu : w < u) (ha : A u v) (he : E v w) {x : Nat} (hu : Up E u x) : Up E w x := by
  have key : ∀ v, A u v → Up E w v → Up E w u := by
    intro v
    induction v using Nat.strongRecOn with
    | _ v ih =>
      intro ha hup
      by_cases hne : u = v
      · subst hne; exact hup
      · have h1 := h.le _ _ ha
        have hp := h.par v (by omega) h1.2
        exact ih (p v) hp.1 (h.up _ _ ha hne) (.step (h.tree v (by omega) h1.2) (by omega) hup)
  have hw := key v ha (.base he)
  induction hu with
  | base he => exact .step he hwu hw
  | step he hlt _ ih => exact .step he (by omega) ih
/-- A way that avoids a comes to the way between a and w from ahead of a. -/
theorem enters {a w : Nat} {sd : Nat → Nat} (hsd : ∀ j, 0 < j → j < N → IsSd E j (sd j)) {t : Nat} (hr : RA E a t) :
    t < a ∨ (∃ x, x < a ∧ a < t ∧ ¬ (A a t ∧ A t w) ∧ ∀ y, A a y → A y w → y ≠ a → Up E y t → y < t → Up E y x) ∨ ∃ y, A a y ∧ A y w ∧ y ≠ a ∧ sd y < a := by
  induction hr with
  | root h0 => exact .inl (by omega)
  | @step t u hr he hne ih =>
    have hed := h.ed _ _ he
    have fin : ∀ x, x < a → A a u → A u w → Up E u x → ∃ y, A a y ∧ A y w ∧ y ≠ a ∧ sd y < a := fun x hx h1 h2 hu =>
      ⟨u, h1, h2, hne, by have h3 := h.le _ _ h1; have := (hsd u (by omega) hed.2).2 x hu; omega⟩
    rcases ih with ih | ⟨x, hx, hat, hon, ih⟩ | ih
    · by_cases hu : u < a
      · exact .inl hu
      · by_cases hon : A a u ∧ A u w
        · exact .inr (.inr (fin t ih hon.1 hon.2 (.base he)))
        · exact .inr (.inl ⟨t, ih, by omega, hon, fun y _ _ _ hy hlt => .step he hlt hy⟩)
    · by_cases hu : u < a
      · exact .inl hu
      · have behind : ∀ y, A a y → A y w → y ≠ a → y ≤ u → y < t := by
          intro y h1 h2 h3 hyu
          apply Classical.byContradiction
          intro hlt
          by_cases hty : t = y
          · subst hty; exact hon ⟨h1, h2⟩
          · have hty' : A t y := h.int _ _ _ (h.fwd _ _ he (by omega)) (by omega) hyu
            exact hon ⟨h.int _ _ _ h1 (by omega) (by omega), h.trans _ _ _ hty' h2⟩
        by_cases hou : A a u ∧ A u w
        · exact .inr (.inr (fin x hx hou.1 hou.2 (ih u hou.1 hou.2 hne (.base he) (behind u hou.1 hou.2 hne (Nat.le_refl _)))))
        · exact .inr (.inl ⟨x, hx, by omega, hou, fun y h1 h2 h3 hy hlt => ih y h1 h2 h3 (.step he hlt hy) (behind y h1 h2 h3 (by omega))⟩)
    · exact .inr (.inr ih)
/-- Who is over whom, by half-dominators. -/
theorem dom_iff {a w : Nat} {sd : Nat → Nat} (hsd : ∀ j, 0 < j → j < N → IsSd E j (sd j)) (hw : w < N) :
    ¬ RA E a w ↔ A a w ∧ ∀ y, A a y → A y w → y ≠ a → a ≤ sd y := by
  constructor
  · intro hn
    have hanc : A a w := Classical.byContradiction fun hc => hn (ra_tree h hw hc)
    refine ⟨hanc, fun y h1 h2 h3 => Classical.byContradiction fun hc => hn ?_⟩
    have a1 := h.le _ _ h1
    have hs := hsd y (by omega) a1.2
    have hsy := sd_lt h (by omega) a1.2 hs
    exact ra_down h (by omega) (ra_up hs.1 (ra_tree h (by omega) (fun hq => by have := h.le _ _ hq; omega)) (by omega)) h2
  · rintro ⟨hanc, hall⟩ hr
    by_cases hne : a = w
    · subst hne; exact ra_self hr
    · have a1 := h.le _ _ hanc
      rcases enters (w := w) h hsd hr with h1 | ⟨x, _, _, h1, _⟩ | ⟨y, h1, h2, h3, h4⟩
      · omega
      · exact h1 ⟨hanc, h.refl _ hw⟩
      · have := hall y h1 h2 h3; omega
theorem anc_chain {a b w : Nat} (ha : A a w) (hb : A b w) (hab : a ≤ b) : A a b := h.int _ _ _ ha hab (h.le _ _ hb).1
end
end LT
end Go.Proofs.Ytnkbbjeepdjamaa
