/- Plain laws on rising lists: joined, dropped, counted. No program. -/
import Derived.Test.YteojcdpmlhlfaaaJoinB
namespace Go.Proofs.Yteojcdpmlhlfaaa
open SB
theorem mem_joinL (xs ys : List Int) (e : Int) : e ∈ joinL xs ys ↔ e ∈ xs ∨ e ∈ ys := by
  induction ys generalizing xs with
  | nil => simp [joinL]
  | cons y ys ih =>
    have h1 : joinL xs (y :: ys) = joinL (ins ltI y xs) ys := rfl
    rw [h1, ih, mem_ins, List.mem_cons]
    constructor
    · rintro ((h | h) | h)
      · exact .inr (.inl h)
      · exact .inl h
      · exact .inr (.inr h)
    · rintro (h | h | h)
      · exact .inl (.inr h)
      · exact .inl (.inl h)
      · exact .inr h
theorem srt_joinL (xs ys : List Int) (h : Srt ltI xs) : Srt ltI (joinL xs ys) := by
  induction ys generalizing xs with
  | nil => exact h
  | cons y ys ih => exact ih _ (srt_ins ordI y xs h)
def delL (xs ys : List Int) : List Int := ys.foldl (fun s x => del x s) xs
theorem delL_snoc (xs ys : List Int) (y : Int) : delL xs (ys ++ [y]) = del y (delL xs ys) := by simp [delL]
theorem delL_eq (xs ys : List Int) : delL xs ys = xs.filter (fun x => decide (x ∉ ys)) := by
  induction ys generalizing xs with
  | nil => simp only [delL, List.foldl_nil, List.not_mem_nil, not_false_eq_true, decide_true]; exact (List.filter_eq_self.2 (fun _ _ => rfl)).symm
  | cons y ys ih =>
    have h1 : delL xs (y :: ys) = delL (del y xs) ys := rfl
    rw [h1, ih]
    unfold del
    rw [List.filter_filter]
    congr 1
    funext x
    simp
    by_cases e : x = y <;> simp [e]
theorem common_left (xs ys : List Int) : (xs.filter (fun x => decide (x ∉ ys))).length + (xs.filter (fun x => decide (x ∈ ys))).length = xs.length := by
  induction xs with
  | nil => rfl
  | cons x xs ih =>
    by_cases h : x ∈ ys
    · simp [h]; simp at ih; omega
    · simp [h]; simp at ih; omega
theorem filter_snoc (xs ys : List Int) (e : Int) (hn : xs.Nodup) (he : e ∉ ys) : (xs.filter (fun x => decide (x ∈ ys ++ [e]))).length = (xs.filter (fun x => decide (x ∈ ys))).length + (if e ∈ xs then 1 else 0) := by
  induction xs with
  | nil => rfl
  | cons x xs ih =>
    have hx := (List.nodup_cons.1 hn).1
    have ih := ih (List.nodup_cons.1 hn).2
    by_cases h : x = e
    · subst h
      rw [if_neg hx] at ih
      simp [he] at ih ⊢
      omega
    · have h' : ¬ e = x := fun k => h k.symm
      by_cases hy : x ∈ ys
      · simp [h, h', hy] at ih ⊢
        omega
      · simp [h, h', hy] at ih ⊢
        omega
theorem joinL_common (xs ys : List Int) (hx : xs.Nodup) (hy : ys.Nodup) : (joinL xs ys).length + (xs.filter (fun x => decide (x ∈ ys))).length = xs.length + ys.length := by
  have key : ∀ (rev : List Int), rev.Nodup → (joinL xs rev.reverse).length + (xs.filter (fun x => decide (x ∈ rev.reverse))).length = xs.length + rev.length := by
    intro rev
    induction rev with
    | nil => intro _; simp [joinL]
    | cons e rev ih =>
      intro hr
      have h1 := List.nodup_cons.1 hr
      have ih := ih h1.2
      rw [List.reverse_cons, joinL_snoc, filter_snoc xs rev.reverse e hx (by simpa using h1.1), length_ins]
      have hm : e ∈ joinL xs rev.reverse ↔ e ∈ xs := by
        rw [mem_joinL]
        constructor
        · rintro (h | h)
          · exact h
          · exact absurd (by simpa using h) h1.1
        · exact .inl
      by_cases he : e ∈ xs
      · rw [if_pos (hm.2 he), if_pos he]; simp at ih ⊢; omega
      · rw [if_neg (fun h => he (hm.1 h)), if_neg he]; simp at ih ⊢; omega
  have := key ys.reverse (List.pairwise_reverse.2 (List.Pairwise.imp (fun {a b} h => Ne.symm h) hy))
  simpa using this
end Go.Proofs.Yteojcdpmlhlfaaa
