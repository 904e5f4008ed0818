/- Where two ways from two places first meet: in the fronts of these, again and again. Plain. No condition. -/
import Derived.Test.YtnkbbjeepdjamaaFrCl
import Derived.Test.YtnkbbjeepdjamaaFrP
import Derived.Test.YtnkbbjeepdjamaaLNestP
namespace Go.Proofs.Ytnkbbjeepdjamaa
open Go.RowKit
/-- A way to v, that is over as soon as v is met: the places ahead of v. -/
inductive Pth (g : Nat → List Nat) (v : Nat) : Nat → List Nat → Prop
  | here : Pth g v v []
  | go {a k : Nat} {l : List Nat} : a ≠ v → k ∈ g a → Pth g v k l → Pth g v a (a :: l)
section
variable {g : Nat → List Nat} {n v : Nat}
/-- Along a way: one of the first place and of its fronts, again and again, is over each place. -/
theorem Pth.climb {st : Int → Prop} {a : Nat} {l : List Nat} (h : Pth g v a l) (hlt : ∀ z, Way g 0 z → z < n) : ∀ (pre : List Nat) (x : Nat), (x = a ∨ x ∈ pre) → LT.Ov g x a → (st (x : Int) ∨ Cl (LT.FrontR g) n st x) →
    ∃ z, (z = v ∨ z ∈ pre ∨ z ∈ l) ∧ LT.Ov g z v ∧ (st (z : Int) ∨ Cl (LT.FrontR g) n st z) := by
  induction h with
  | here => exact fun pre x hx ho hs => ⟨x, hx.imp id .inl, ho, hs⟩
  | go hne hk hp ih =>
    rename_i a k l
    intro pre x hx ho hs
    have hwk : Way g 0 k := ho.2.1.step hk
    by_cases hok : LT.Ov g x k
    · obtain ⟨z, h1, h2, h3⟩ := ih (a :: pre) x (.inr (hx.elim (fun e => by rw [e]; exact List.mem_cons_self) (fun e => List.mem_cons_of_mem _ e))) hok hs
      refine ⟨z, ?_, h2, h3⟩
      rcases h1 with e | e | e
      · exact .inl e
      · rcases List.mem_cons.1 e with e | e
        · exact .inr (.inr (by rw [e]; exact List.mem_cons_self))
        · exact .inr (.inl e)
      · exact .inr (.inr (List.mem_cons_of_mem _ e))
    · have hf : LT.FrontR g x k := ⟨a, hk, ho, .inr hok⟩
      have hc : Cl (LT.FrontR g) n st k := hs.elim (fun e => .base e (hlt x ho.1) hf) (fun e => .step e (hlt x ho.1) hf)
      obtain ⟨z, h1, h2, h3⟩ := ih pre k (.inl rfl) (LT.ov_self hwk) (.inr hc)
      refine ⟨z, ?_, h2, h3⟩
      rcases h1 with e | e | e
      · exact .inl e
      · exact .inr (.inl e)
      · exact .inr (.inr (List.mem_cons_of_mem _ e))
/-- From a place of a way on, without one that isn't on it. -/
theorem Pth.avoid {a : Nat} {l : List Nat} (h : Pth g v a l) {y : Nat} (hyv : y ≠ v) (hyl : y ∉ l) : ∀ {z : Nat}, z ∈ l → WayO g (y : Int) z → WayO g (y : Int) v := by
  have start : ∀ {a : Nat} {l : List Nat}, Pth g v a l → y ∉ l → WayO g (y : Int) a → WayO g (y : Int) v := by
    intro a l h
    induction h with
    | here => exact fun _ hw => hw
    | go hne hk hp ih =>
      intro hn hw
      have hn2 := fun e => hn (List.mem_cons_of_mem _ e)
      refine ih hn2 (hw.step hk (fun e => ?_))
      have e := Int.natCast_inj.1 e
      cases hp with
      | here => exact hyv e.symm
      | go _ _ _ => exact hn2 (by rw [← e]; exact List.mem_cons_self)
  induction h with
  | here => intro z hz; cases hz
  | go hne hk hp ih =>
    intro z hz hw
    rcases List.mem_cons.1 hz with e | e
    · rw [e] at hw
      exact start (.go hne hk hp) hyl hw
    · exact ih (fun e => hyl (List.mem_cons_of_mem _ e)) e hw
theorem wayO_of {y x : Nat} (hx : Way g 0 x) (hn : ¬ LT.Ov g y x) (hy : Way g 0 y) : WayO g (y : Int) x :=
  Classical.byContradiction fun h => hn ⟨hy, hx, h⟩
/-- THE LAW. -/
theorem meets {up deep : List Int} (h : LT.DTree g n up deep) {x y : Nat} {lx ly : List Nat} (hx : Way g 0 x) (hy : Way g 0 y) (px : Pth g v x lx) (py : Pth g v y ly) (hxv : x ≠ v) (hyv : y ≠ v) (hd : ∀ z, z ∈ lx → z ∉ ly) : Cl (LT.FrontR g) n (fun z => z = (x : Int) ∨ z = (y : Int)) v := by
  obtain ⟨x', x1, x2, x3⟩ := px.climb (st := fun z => z = (x : Int) ∨ z = (y : Int)) h.lt [] x (.inl rfl) (LT.ov_self hx) (.inl (.inl rfl))
  obtain ⟨y', y1, y2, y3⟩ := py.climb (st := fun z => z = (x : Int) ∨ z = (y : Int)) h.lt [] y (.inl rfl) (LT.ov_self hy) (.inl (.inr rfl))
  have fin : ∀ {z : Nat}, z = v → ((z : Int) = (x : Int) ∨ (z : Int) = (y : Int)) ∨ Cl (LT.FrontR g) n (fun z => z = (x : Int) ∨ z = (y : Int)) z → Cl (LT.FrontR g) n (fun z => z = (x : Int) ∨ z = (y : Int)) v := by
    intro z e hz
    subst e
    rcases hz with (e | e) | e
    · exact absurd (Int.natCast_inj.1 e).symm hxv
    · exact absurd (Int.natCast_inj.1 e).symm hyv
    · exact e
  by_cases ex : x' = v
  · exact fin ex x3
  · by_cases ey : y' = v
    · exact fin ey y3
    · have mx : x' ∈ lx := by rcases x1 with e | e | e; exact absurd e ex; cases e; exact e
      have my : y' ∈ ly := by rcases y1 with e | e | e; exact absurd e ey; cases e; exact e
      exfalso
      have hne : x' ≠ y' := fun e => hd x' mx (by rw [e]; exact my)
      rcases ov_pair h x2 y2 with o | o
      · have hno : ¬ LT.Ov g y' x' := fun o2 => hne (ov_same h o o2)
        exact y2.2.2 (px.avoid ey (fun e => hd y' e my) mx (wayO_of x2.1 hno y2.1))
      · have hno : ¬ LT.Ov g x' y' := fun o2 => hne (ov_same h o2 o)
        exact x2.2.2 (py.avoid ex (fun e => hd x' mx e) my (wayO_of y2.1 hno x2.1))
end
end Go.Proofs.Ytnkbbjeepdjamaa
