/- Dominators, plain: the forest of those done, the least half-dominators, the nearest ones. No condition. -/
import Derived.Test.YtnkbbjeepdjamaaDVis
namespace Go.Proofs.Ytnkbbjeepdjamaa
namespace LT
/-- Half-dominators are there. -/
theorem sd_ex {N : Nat} {E A : Nat → Nat → Prop} {p : Nat → Nat} (h : Dfs N E A p) : ∃ sd : Nat → Nat, ∀ j, 0 < j → j < N → IsSd E j (sd j) := by
  have key : ∀ (w x : Nat), Up E w x → ∃ s, IsSd E w s := by
    intro w x
    induction x using Nat.strongRecOn with
    | _ x ih =>
      intro hu
      by_cases hc : ∃ y, y < x ∧ Up E w y
      · obtain ⟨y, h1, h2⟩ := hc; exact ih y h1 h2
      · exact ⟨x, hu, fun y hy => Nat.le_of_not_lt (fun hl => hc ⟨y, hl, hy⟩)⟩
  refine ⟨fun j => @dite Nat (0 < j ∧ j < N) (Classical.propDecidable _) (fun hj => (key j (p j) (.base (h.tree j hj.1 hj.2))).choose) (fun _ => 0), fun j h0 hj => ?_⟩
  show IsSd E j (@dite Nat (0 < j ∧ j < N) (Classical.propDecidable _) _ _)
  rw [dif_pos ⟨h0, hj⟩]
  exact (key j (p j) (.base (h.tree j h0 hj))).choose_spec
/-- w's nearest one is d. -/
def Near (E : Nat → Nat → Prop) (w d : Nat) : Prop := d < w ∧ ∀ a, (¬ RA E a w ↔ a = w ∨ ¬ RA E a d)
section
variable {N : Nat} {E A : Nat → Nat → Prop} {p : Nat → Nat} (h : Dfs N E A p) {sd : Nat → Nat} (hsd : ∀ j, 0 < j → j < N → IsSd E j (sd j))
include h hsd
theorem near_sd {w m : Nat} (h0 : 0 < w) (hw : w < N) (hm : Arg A sd (sd w) w m) (hc : ¬ sd m < sd w) : Near E w (sd w) := by
  obtain ⟨m1, m2, m3, m4⟩ := hm
  have hs := sd_lt h h0 hw (hsd w h0 hw)
  have hsN : sd w < N := by omega
  refine ⟨hs.1, fun a => ?_⟩
  constructor
  · intro hd
    by_cases haw : a = w
    · exact .inl haw
    · right
      have hdw := (dom_iff h hsd hw).1 hd
      have has : a ≤ sd w := hdw.2 w hdw.1 (h.refl _ hw) (fun e => haw e.symm)
      exact (dom_iff h hsd hsN).2 ⟨anc_chain h hdw.1 hs.2 has, fun y y1 y2 y3 => hdw.2 y y1 (h.trans _ _ _ y2 hs.2) y3⟩
  · rintro (rfl | hd)
    · exact fun hr => ra_self hr
    · have hds := (dom_iff h hsd hsN).1 hd
      have has := h.le _ _ hds.1
      refine (dom_iff h hsd hw).2 ⟨h.trans _ _ _ hds.1 hs.2, fun y y1 y2 y3 => ?_⟩
      by_cases hys : y ≤ sd w
      · exact hds.2 y y1 (anc_chain h y2 hs.2 hys) y3
      · have := m4 y (anc_chain h hs.2 y2 (by omega)) (by omega) y2
        omega
theorem near_far {w m d : Nat} (h0 : 0 < w) (hw : w < N) (hm : Arg A sd (sd w) w m) (hc : sd m < sd w) (hd : Near E m d) : Near E w d := by
  obtain ⟨m1, m2, m3, m4⟩ := hm
  have hs := sd_lt h h0 hw (hsd w h0 hw)
  have m11 := h.le _ _ m1
  have m31 := h.le _ _ m3
  have hmw : m < w := by
    rcases Nat.lt_or_ge m w with hl | hl
    · exact hl
    · obtain rfl : m = w := by omega
      omega
  obtain ⟨i1, i2⟩ := hd
  refine ⟨by omega, fun a => ?_⟩
  have hum : ¬ RA E a d → a < m := fun hn => by
    have := h.le _ _ ((dom_iff h hsd (by omega)).1 hn).1; omega
  constructor
  · intro hd
    by_cases haw : a = w
    · exact .inl haw
    · right
      have hdw := (dom_iff h hsd hw).1 hd
      have has : a ≤ sd w := hdw.2 w hdw.1 (h.refl _ hw) (fun e => haw e.symm)
      have hdm : ¬ RA E a m := (dom_iff h hsd m11.2).2 ⟨anc_chain h hdw.1 m3 (by omega), fun y y1 y2 y3 => hdw.2 y y1 (h.trans _ _ _ y2 m3) y3⟩
      exact ((i2 a).1 hdm).resolve_left (by omega)
  · rintro (rfl | hd)
    · exact fun hr => ra_self hr
    · have ham := hum hd
      have hdm := (i2 a).2 (.inr hd)
      have hdm' := (dom_iff h hsd m11.2).1 hdm
      have hasm : a ≤ sd m := hdm'.2 m hdm'.1 (h.refl _ m11.2) (by omega)
      refine (dom_iff h hsd hw).2 ⟨h.trans _ _ _ hdm'.1 m3, fun y y1 y2 y3 => ?_⟩
      by_cases hym : y ≤ m
      · exact hdm'.2 y y1 (anc_chain h y2 m3 hym) y3
      · have := m4 y (anc_chain h hs.2 y2 (by omega)) (by omega) y2
        omega
end
end LT
end Go.Proofs.Ytnkbbjeepdjamaa
