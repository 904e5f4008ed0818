/- Fronts of some places, of these too, again and again, plain: a set that grows, a queue of those whose fronts aren't in it yet. No condition. -/
import Derived.Test.YtnkbbjeepdjamaaM4
namespace Go.Proofs.Ytnkbbjeepdjamaa
open Go.RowKit
/-- What one comes to. -/
inductive Cl (P : Nat → Nat → Prop) (n : Nat) (s : Int → Prop) : Nat → Prop
  | base {v w : Nat} : s (v : Int) → v < n → P v w → Cl P n s w
  | step {v w : Nat} : Cl P n s v → v < n → P v w → Cl P n s w
/-- A place's own front is in the set. -/
def Dn (P : Nat → Nat → Prop) (n : Nat) (O : List Int) (x : Int) : Prop := ∀ v : Nat, x = (v : Int) → v < n → ∀ w, P v w → (w : Int) ∈ O
theorem Dn.mono {P : Nat → Nat → Prop} {n : Nat} {O O' : List Int} {x : Int} (h : Dn P n O x) (hs : ∀ y, y ∈ O → y ∈ O') : Dn P n O' x := fun v e hv w hw => hs _ (h v e hv w hw)
/-- Between two that are taken. -/
structure AJf (P : Nat → Nat → Prop) (n N : Nat) (s : Int → Prop) (O Q : List Int) : Prop where
  sub : ∀ x, x ∈ O → ∃ y : Nat, x = (y : Int) ∧ Cl P n s y
  q : ∀ x, x ∈ Q → s x ∨ x ∈ O
  done : ∀ x, s x ∨ x ∈ O → x ∈ Q ∨ Dn P n O x
  len : O.length ≤ N
/-- While the front of x is put in: k of xs are in. -/
structure IJf (P : Nat → Nat → Prop) (n N : Nat) (s : Int → Prop) (x : Int) (xs : List Int) (M k : Nat) (O Q : List Int) : Prop where
  sub : ∀ x, x ∈ O → ∃ y : Nat, x = (y : Int) ∧ Cl P n s y
  q : ∀ x, x ∈ Q → s x ∨ x ∈ O
  done : ∀ y, s y ∨ y ∈ O → y ∈ Q ∨ Dn P n O y ∨ y = x
  got : ∀ j y, j < k → xs[j]? = some y → y ∈ O
  len : O.length ≤ N
  meas : 2 * (N - O.length) + Q.length ≤ M
section
variable {P : Nat → Nat → Prop} {n N : Nat} {s : Int → Prop} {O Q : List Int} {x : Int} {xs : List Int} {M k : Nat}
/-- At the start: all that are given wait. -/
theorem AJf.start (hq : ∀ x, x ∈ Q ↔ s x) : AJf P n N s [] Q :=
  ⟨fun x hx => by simp at hx, fun x hx => .inl ((hq x).1 hx), fun x hx => .inl ((hq x).2 (hx.elim id (fun e => by simp at e))), by simp⟩
theorem AJf.skip (h : AJf P n N s O (x :: Q)) (hx : x < 0 ∨ (n : Int) ≤ x) : AJf P n N s O Q := by
  refine ⟨h.sub, fun y hy => h.q y (List.mem_cons_of_mem _ hy), fun y hy => ?_, h.len⟩
  rcases h.done y hy with e | e
  · rcases List.mem_cons.1 e with rfl | e
    · exact .inr (fun v e hv => by omega)
    · exact .inl e
  · exact .inr e
theorem AJf.enter (h : AJf P n N s O (x :: Q)) : IJf P n N s x xs (2 * (N - O.length) + Q.length) 0 O Q := by
  refine ⟨h.sub, fun y hy => h.q y (List.mem_cons_of_mem _ hy), fun y hy => ?_, fun j y hj => by omega, h.len, Nat.le_refl _⟩
  rcases h.done y hy with e | e
  · rcases List.mem_cons.1 e with rfl | e
    · exact .inr (.inr rfl)
    · exact .inl e
  · exact .inr (.inl e)
theorem IJf.leave {v : Nat} (h : IJf P n N s (v : Int) xs M xs.length O Q) (hxs : ∀ w : Nat, P v w → (w : Int) ∈ xs) : AJf P n N s O Q := by
  refine ⟨h.sub, h.q, fun y hy => ?_, h.len⟩
  rcases h.done y hy with e | e | rfl
  · exact .inl e
  · exact .inr e
  · refine .inr (fun u e _ w hw => ?_)
    obtain rfl : v = u := by omega
    obtain ⟨j, hj⟩ := List.getElem?_of_mem (hxs w hw)
    exact h.got j _ (List.getElem?_eq_some_iff.1 hj).1 hj
theorem IJf.old {w : Int} (h : IJf P n N s x xs M k O Q) (hw : xs[k]? = some w) (hm : w ∈ O) : IJf P n N s x xs M (k + 1) O Q := by
  refine ⟨h.sub, h.q, h.done, fun j y hj hy => ?_, h.len, h.meas⟩
  by_cases e : j = k
  · subst e; rw [hw] at hy; rw [← Option.some.inj hy]; exact hm
  · exact h.got j y (by omega) hy
/-- A new one: it is put into the set; it waits. -/
theorem IJf.new {w : Int} {Q' : List Int} (h : IJf P n N s x xs M k O Q) (hw : xs[k]? = some w) (hm : w ∉ O) {wn : Nat} (hwn : w = (wn : Int)) (hcl : Cl P n s wn) (hl : O.length + 1 ≤ N) (hq : ∀ y, y ∈ Q' ↔ y ∈ Q ∨ y = w) (hql : Q'.length ≤ Q.length + 1) :
    IJf P n N s x xs M (k + 1) (ins ltI w O) Q' := by
  have hi : ∀ y, y ∈ ins ltI w O ↔ y = w ∨ y ∈ O := fun y => mem_ins w y O
  have hle : (ins ltI w O).length = O.length + 1 := by rw [length_ins, if_neg hm]
  refine ⟨fun y hy => ?_, fun y hy => ?_, fun y hy => ?_, fun j y hj hy => ?_, by omega, by have := h.meas; omega⟩
  · rcases (hi y).1 hy with rfl | hy
    · exact ⟨wn, hwn, hcl⟩
    · exact h.sub y hy
  · rw [hi]
    rcases (hq y).1 hy with hy | rfl
    · exact (h.q y hy).imp id .inr
    · exact .inr (.inl rfl)
  · rw [hi] at hy
    rw [hq]
    rcases hy with hy | rfl | hy
    · rcases h.done y (.inl hy) with e | e | e
      · exact .inl (.inl e)
      · exact .inr (.inl (e.mono (fun z hz => (hi z).2 (.inr hz))))
      · exact .inr (.inr e)
    · exact .inl (.inr rfl)
    · rcases h.done y (.inr hy) with e | e | e
      · exact .inl (.inl e)
      · exact .inr (.inl (e.mono (fun z hz => (hi z).2 (.inr hz))))
      · exact .inr (.inr e)
  · rw [hi]
    by_cases e : j = k
    · subst e; rw [hw] at hy; exact .inl (Option.some.inj hy).symm
    · exact .inr (h.got j y (by omega) hy)
/-- At the end: the set is what one comes to. -/
theorem AJf.fin (h : AJf P n N s O []) (w : Nat) : (w : Int) ∈ O ↔ Cl P n s w := by
  constructor
  · intro hw
    obtain ⟨y, e, hy⟩ := h.sub _ hw
    obtain rfl : w = y := by omega
    exact hy
  · intro hw
    induction hw with
    | base hs hv hp =>
      rcases h.done _ (.inl hs) with e | e
      · simp at e
      · exact e _ rfl hv _ hp
    | step _ hv hp ih =>
      rcases h.done _ (.inr ih) with e | e
      · simp at e
      · exact e _ rfl hv _ hp
theorem AJf.nat (h : AJf P n N s O Q) (x : Int) (hx : x ∈ O) : ∃ y : Nat, x = (y : Int) ∧ Cl P n s y := h.sub x hx
end
end Go.Proofs.Ytnkbbjeepdjamaa
