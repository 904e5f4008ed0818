/- Plain laws on rising lists of texts, for the sets that refinerylaw02.BagJoins makes. No program. -/
import Derived.Test.YteojcdpmlhlfaaaJoinSubS
namespace Go.Proofs.Yteojcdpmlhlfaaa
open SS
theorem mem_joinS (xs ys : List ByteArray) (e : ByteArray) : e ∈ joinL xs ys ↔ e ∈ xs ∨ e ∈ ys := by
  induction ys generalizing xs with
  | nil => simp [joinL]
  | cons y ys ih =>
    have h1 : joinL xs (y :: ys) = joinL (ins ltS y xs) ys := rfl
    rw [h1, ih, mem_ins, List.mem_cons]
    constructor
    · rintro ((h | h) | h)
      · exact .inr (.inl h)
      · exact .inl h
      · exact .inr (.inr h)
    · rintro (h | h | h)
      · exact .inl (.inr h)
      · exact .inl (.inl h)
      · exact .inr h
theorem srt_joinS (xs ys : List ByteArray) (h : Srt ltS xs) : Srt ltS (joinL xs ys) := by
  induction ys generalizing xs with
  | nil => exact h
  | cons y ys ih => exact ih _ (srt_ins ordS y xs h)
theorem ofLS_join (l : List ByteArray) : ofLS l = joinL [] l := rfl
theorem mem_ofLS (l : List ByteArray) (e : ByteArray) : e ∈ ofLS l ↔ e ∈ l := by rw [ofLS_join, mem_joinS]; simp
theorem srt_ofLS (l : List ByteArray) : Srt ltS (ofLS l) := by rw [ofLS_join]; exact srt_joinS [] l List.Pairwise.nil
theorem join_of (la lb : List ByteArray) : joinL (ofLS la) (ofLS lb) = ofLS (lb ++ la) :=
  srt_ext ordS _ _ (srt_joinS _ _ (srt_ofLS la)) (srt_ofLS _) (fun e => by
    rw [mem_joinS, mem_ofLS, mem_ofLS, mem_ofLS, List.mem_append]
    exact Or.comm)
theorem ins_eq (x : ByteArray) (vs : List ByteArray) : decide (ins ltS x vs = vs) = decide (x ∈ vs) := by
  by_cases h : x ∈ vs
  · have : ins ltS x vs = vs := by unfold ins; rw [if_pos h]
    simp [this, h]
  · have : ¬ ins ltS x vs = vs := fun e => h (by rw [← e, mem_ins]; exact .inl rfl)
    simp [this, h]
/-- A rising list with as many items as one that has them all is that one. -/
theorem join_same_len (xs ys : List ByteArray) (hx : Srt ltS xs) : (joinL xs ys).length = xs.length ↔ ∀ y ∈ ys, y ∈ xs := by
  constructor
  · induction ys generalizing xs with
    | nil => intro _ y h; cases h
    | cons z ys ih =>
      intro h y hy
      have h1 : joinL xs (z :: ys) = joinL (ins ltS z xs) ys := rfl
      have h2 := (joinL_len (ins ltS z xs) ys).1
      have h3 := length_ins (lt := ltS) z xs
      rw [h1] at h
      by_cases hz : z ∈ xs
      · have e : ins ltS z xs = xs := by unfold ins; rw [if_pos hz]
        rw [e] at h
        rcases List.mem_cons.1 hy with rfl | hy
        · exact hz
        · exact ih xs hx h y hy
      · rw [if_neg hz] at h3; omega
  · intro h
    have : joinL xs ys = xs := srt_ext ordS _ _ (srt_joinS _ _ hx) hx (fun e => by
      rw [mem_joinS]
      exact ⟨fun k => k.elim id (h e), .inl⟩)
    rw [this]
theorem join_comm (xs ys : List ByteArray) (hx : Srt ltS xs) (hy : Srt ltS ys) : joinL xs ys = joinL ys xs :=
  srt_ext ordS _ _ (srt_joinS _ _ hx) (srt_joinS _ _ hy) (fun e => by rw [mem_joinS, mem_joinS]; exact Or.comm)
theorem same_iff (xs ys : List ByteArray) (hx : Srt ltS xs) (hy : Srt ltS ys) : xs = ys ↔ (joinL xs ys).length = xs.length ∧ (joinL xs ys).length = ys.length := by
  constructor
  · rintro rfl
    have h := (join_same_len xs xs hx).2 (fun _ h => h)
    exact ⟨h, h⟩
  · rintro ⟨h1, h2⟩
    rw [join_comm xs ys hx hy] at h2
    have k1 := (join_same_len xs ys hx).1 h1
    have k2 := (join_same_len ys xs hy).1 h2
    exact srt_ext ordS _ _ hx hy (fun e => ⟨k2 e, k1 e⟩)
end Go.Proofs.Yteojcdpmlhlfaaa
