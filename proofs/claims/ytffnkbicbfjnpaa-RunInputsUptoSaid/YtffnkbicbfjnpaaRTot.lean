/- The printed functions of layer 3 are total; what they answer. No condition. -/
import Derived.Test.YtffnkbicbfjnpaaRP
namespace Go.Proofs.Ytffnkbicbfjnpaa
open Go.RowKit Go.Proofs.YtffnkbicbfjnpaaW.PrintWords Go.Proofs.Ytffnkbicbfjnpaa.PRunFuel

/-- An instruction's registers that are read. -/
def readsI (x : S38) : List Int := if x.f0 = 1 ∨ x.f0 = 4 ∨ x.f0 = 6 ∨ x.f0 = 7 then [x.f3] else if x.f0 = 2 ∨ x.f0 = 8 then [x.f3, x.f4] else []
def setsB (k : Int) : Bool := decide (k = 0 ∨ k = 1 ∨ k = 2 ∨ k = 3 ∨ k = 5 ∨ k = 7)
theorem sets_some (x : S38) : ir_Instr_Sets.f x.f0 x.f1 x.f2 x.f3 x.f4 x.f5 x.f6 = some (if setsB x.f0 then x.f2 else 0, setsB x.f0) := by
  unfold ir_Instr_Sets.f setsB
  repeat' (split <;> simp_all)
theorem reads_some (x : S38) : ir_Instr_Reads.f 1 x.f0 x.f1 x.f2 x.f3 x.f4 x.f5 x.f6 = some (readsI x) := by
  unfold ir_Instr_Reads.f readsI
  simp only [ir_Instr_Reads.j0]
  by_cases h1 : x.f0 = 1 <;> by_cases h2 : x.f0 = 2 <;> by_cases h4 : x.f0 = 4 <;> by_cases h6 : x.f0 = 6 <;> by_cases h7 : x.f0 = 7 <;> by_cases h8 : x.f0 = 8 <;> first | omega | simp_all
def onlyI (x : S38) : S38 :=
  ⟨x.f0, if x.f0 = 2 then x.f1 else 0, if setsB x.f0 then x.f2 else 0, (readsI x).getD 0 0, (readsI x).getD 1 0, if x.f0 = 0 then x.f5 else 0, if x.f0 = 5 ∨ x.f0 = 6 then x.f6 else 0⟩
theorem only_some (x : S38) : ir_Instr_Only.f 1 x.f0 x.f1 x.f2 x.f3 x.f4 x.f5 x.f6 = some ((onlyI x).f0, (onlyI x).f1, (onlyI x).f2, (onlyI x).f3, (onlyI x).f4, (onlyI x).f5, (onlyI x).f6) := by
  unfold ir_Instr_Only.f
  rw [sets_some, reads_some]
  simp only [Option.bind_some, ir_Instr_Only.j0, onlyI]
  unfold readsI
  by_cases h0 : x.f0 = 0 <;> by_cases h1 : x.f0 = 1 <;> by_cases h2 : x.f0 = 2 <;> by_cases h4 : x.f0 = 4 <;> by_cases h5 : x.f0 = 5 <;> by_cases h6 : x.f0 = 6 <;> by_cases h7 : x.f0 = 7 <;> by_cases h8 : x.f0 = 8 <;> first | omega | simp_all [rd]
theorem reg_some (a : Int) : ir_reg.f a = some (decide (0 ≤ a ∧ a < 100000)) := by
  unfold ir_reg.f
  by_cases h : a ≥ 0
  · rw [if_pos h]; congr 1; simp; omega
  · rw [if_neg h]; congr 1; symm; simp; omega
/-- May an instruction be one? -/
def okI (x : S38) : Prop := x.f0 < 9 ∧ (x.f0 = 2 → x.f1 < 12) ∧ x = onlyI x ∧ (0 ≤ x.f2 ∧ x.f2 < 100000) ∧ (0 ≤ x.f3 ∧ x.f3 < 100000) ∧ (0 ≤ x.f4 ∧ x.f4 < 100000) ∧ 0 ≤ x.f6 ∧ x.f6 < 16
theorem S38.ext' {x y : S38} (h0 : x.f0 = y.f0) (h1 : x.f1 = y.f1) (h2 : x.f2 = y.f2) (h3 : x.f3 = y.f3) (h4 : x.f4 = y.f4) (h5 : x.f5 = y.f5) (h6 : x.f6 = y.f6) : x = y := by
  cases x; cases y; simp_all
theorem check_some (x : S38) : ∃ c, ir_Instr_check.f 2 x.f0 x.f1 x.f2 x.f3 x.f4 x.f5 x.f6 = some c ∧ (c = 0 ↔ okI x) := by
  unfold ir_Instr_check.f
  have hj : ∀ b, ∃ c, ir_Instr_check.j0 2 b x.f0 x.f1 x.f2 x.f3 x.f4 x.f5 x.f6 = some c ∧ (c = 0 ↔ b = false ∧ x = onlyI x ∧ (0 ≤ x.f2 ∧ x.f2 < 100000) ∧ (0 ≤ x.f3 ∧ x.f3 < 100000) ∧ (0 ≤ x.f4 ∧ x.f4 < 100000) ∧ 0 ≤ x.f6 ∧ x.f6 < 16) := by
    intro b
    simp only [ir_Instr_check.j0]
    cases b with
    | true => exact ⟨6, by simp, by simp⟩
    | false =>
      rw [only_some]
      simp only [Option.bind_some, Bool.false_eq_true, if_false]
      by_cases he : x = onlyI x
      · have h0 : (!(x.f0 == (onlyI x).f0) || (!(x.f1 == (onlyI x).f1) || (!(x.f2 == (onlyI x).f2) || (!(x.f3 == (onlyI x).f3) || (!(x.f4 == (onlyI x).f4) || (!(x.f5 == (onlyI x).f5) || (!(x.f6 == (onlyI x).f6)))))))) = false := by rw [← he]; simp
        rw [h0]
        simp only [Bool.false_eq_true, if_false, reg_some, Option.bind_some, decide_eq_true_eq]
        clear h0
        by_cases a : 0 ≤ x.f2 ∧ x.f2 < 100000
        · rw [if_pos a]
          by_cases b : 0 ≤ x.f3 ∧ x.f3 < 100000
          · rw [if_pos b]
            by_cases c : 0 ≤ x.f4 ∧ x.f4 < 100000
            · rw [if_pos c]
              by_cases d : x.f6 < 0
              · rw [if_pos d]; exact ⟨2, rfl, fun h => absurd h (by decide), fun h => by omega⟩
              · rw [if_neg d]
                by_cases d2 : x.f6 ≥ 16
                · rw [if_pos d2]; exact ⟨2, rfl, fun h => absurd h (by decide), fun h => by omega⟩
                · rw [if_neg d2]; exact ⟨0, rfl, fun _ => ⟨trivial, he, a, b, c, by omega, by omega⟩, fun _ => rfl⟩
            · rw [if_neg c]; exact ⟨2, rfl, fun h => absurd h (by decide), fun h => absurd h.2.2.2.2.1 c⟩
          · rw [if_neg b]; exact ⟨2, rfl, fun h => absurd h (by decide), fun h => absurd h.2.2.2.1 b⟩
        · rw [if_neg a]; exact ⟨2, rfl, fun h => absurd h (by decide), fun h => absurd h.2.2.1 a⟩
      · have h0 : (!(x.f0 == (onlyI x).f0) || (!(x.f1 == (onlyI x).f1) || (!(x.f2 == (onlyI x).f2) || (!(x.f3 == (onlyI x).f3) || (!(x.f4 == (onlyI x).f4) || (!(x.f5 == (onlyI x).f5) || (!(x.f6 == (onlyI x).f6)))))))) = true := by
          apply Classical.byContradiction
          intro hn
          simp only [Bool.not_eq_true, Bool.or_eq_false_iff, Bool.not_eq_false', beq_iff_eq] at hn
          exact he (S38.ext' hn.1 hn.2.1 hn.2.2.1 hn.2.2.2.1 hn.2.2.2.2.1 hn.2.2.2.2.2.1 hn.2.2.2.2.2.2)
        rw [if_pos h0]
        exact ⟨5, rfl, by simp [he]⟩
  by_cases h9 : x.f0 ≥ 9
  · rw [if_pos h9]
    obtain ⟨c, hc, hi⟩ := hj true
    exact ⟨c, hc, hi.trans ⟨fun h => by simp at h, fun h => by have := h.1; omega⟩⟩
  · rw [if_neg h9]
    by_cases h2 : x.f0 = 2
    · rw [if_pos h2]
      obtain ⟨c, hc, hi⟩ := hj (decide (x.f1 ≥ 12))
      refine ⟨c, hc, hi.trans ?_⟩
      simp only [decide_eq_false_iff_not, okI]
      constructor
      · rintro ⟨a, b⟩; exact ⟨by omega, fun _ => by omega, b⟩
      · rintro ⟨_, a, b⟩; exact ⟨by have := a h2; omega, b⟩
    · rw [if_neg h2]
      obtain ⟨c, hc, hi⟩ := hj false
      refine ⟨c, hc, hi.trans ?_⟩
      simp only [okI]
      constructor
      · rintro ⟨_, b⟩; exact ⟨by omega, fun h => absurd h h2, b⟩
      · rintro ⟨_, _, b⟩; exact ⟨trivial, b⟩
def labelsL (l : S29) : List Int := if l.f0 = 0 ∨ (l.f0 = 1 ∧ l.f2 = l.f3) then [l.f2] else if l.f0 = 1 then [l.f2, l.f3] else []
theorem labels_some (l : S29) : ir_Last_Labels.f 1 l.f0 l.f1 l.f2 l.f3 = some (labelsL l) := by
  unfold ir_Last_Labels.f labelsL
  simp only [ir_Last_Labels.j0]
  by_cases h0 : l.f0 = 0 <;> by_cases h1 : l.f0 = 1 <;> by_cases h : l.f2 = l.f3 <;> simp [h0, h1, h]
def onlyL (l : S29) : S29 := ⟨l.f0, if l.f0 = 1 ∨ l.f0 = 2 then l.f1 else 0, if l.f0 = 0 ∨ l.f0 = 1 then l.f2 else 0, if l.f0 = 1 then l.f3 else 0⟩
theorem onlyL_some (l : S29) : ir_Last_Only.f 2 l.f0 l.f1 l.f2 l.f3 = some ((onlyL l).f0, (onlyL l).f1, (onlyL l).f2, (onlyL l).f3) := by
  unfold ir_Last_Only.f ir_Last_Reads.f onlyL
  by_cases h1 : l.f0 = 1
  · simp [h1, ir_Last_Only.j0, ir_Last_Only.j1]
  · by_cases h2 : l.f0 = 2
    · simp [h2, ir_Last_Only.j0, ir_Last_Only.j1]
    · by_cases h0 : l.f0 = 0
      · simp [h0, ir_Last_Only.j0, ir_Last_Only.j1]
      · simp [h0, h1, h2, ir_Last_Only.j0, ir_Last_Only.j1]
theorem ite_some {α : Type} {c : Prop} [Decidable c] {x y : Option α} (hx : ∃ r, x = some r) (hy : ∃ r, y = some r) : ∃ r, (if c then x else y) = some r := by
  split <;> assumption
/-- What an op does with two numbers. -/
def doF (o a b : Int) : Int × Bool := (word_Op_Do.f 1 o a b).getD (0, false)
theorem do_some (o a b : Int) : word_Op_Do.f 1 o a b = some (doF o a b) := by
  have key : ∃ r, word_Op_Do.f 1 o a b = some r := by
    unfold word_Op_Do.f
    simp only [word_Op_Do.j0, word_bit.f]
    have hw : 0 ≤ IntKind.u64.wrap (Go.bits .and .i64 b 63) := by
      unfold IntKind.wrap; simp [IntKind.signed]; omega
    simp only [if_pos hw]
    have hb : ∀ c : Bool, ∃ r, ((if c = true then some (1 : Int) else some 0).bind fun t => some (t, true)) = some r := fun c => by cases c <;> exact ⟨_, rfl⟩
    repeat' (first | exact ⟨_, rfl⟩ | exact hb _ | refine ite_some ?_ ?_)
  obtain ⟨r, h⟩ := key
  unfold doF
  rw [h]; rfl
/-- How many instructions, phis and ends there are. -/
def countP : List S31 → Nat
  | [] => 0
  | b :: p => b.f2.length + b.f1.length + 1 + countP p
end Go.Proofs.Ytffnkbicbfjnpaa
