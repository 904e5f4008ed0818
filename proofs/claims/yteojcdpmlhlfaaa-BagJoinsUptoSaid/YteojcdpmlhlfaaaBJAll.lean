/- refinerylaw02.BagJoins answers true of any rows of texts. Conditions: the rows' cells hold texts. -/
import Derived.Test.YteojcdpmlhlfaaaBagJoins
namespace Go.Proofs.Yteojcdpmlhlfaaa
open Go.RowKit Go.Shelf SS
theorem joins_far (A1 A2 : Option Addr) (n1 n2 c1 c2 : Nat) (x : ByteArray) (w : World) (h : 30 < n1 ∨ 30 < n2) :
    Calls Try.prog 5 #[.slice A1 n1 c1, .slice A2 n2 c2, .string x] w fun e w' => e = .returned (.bool true) ∧ Below w.heap.size w w' := by
  have key : ∀ b1 b2 : Bool, decide ((30 : Int) < (n1 : Int)) = b1 → decide ((30 : Int) < (n2 : Int)) = b2 → (b1 || b2) = true →
      Calls Try.prog 5 #[.slice A1 n1 c1, .slice A2 n2 c2, .string x] w fun e w' => e = .returned (.bool true) ∧ Below w.heap.size w w' := by
    intro b1 b2 e1 e2 hb
    cases b1 <;> cases b2 <;> first | (simp at hb; done) | skip
    all_goals
      clear hb h
      go_enter Try.func5, Try.ntmps5
      go_wp2_with fail
      refine (awake _).mono ?_
      rintro e w1 ⟨rfl, hb1⟩
      have HB1 := Lib.hid hb1
      clear hb1
      go_wp2
      go_ret
      exact ⟨rfl, HB1.out⟩
  refine key _ _ rfl rfl ?_
  simp
  omega
theorem joins_all (A1 A2 : Option Addr) (n1 n2 c1 c2 : Nat) (l1 l2 : List ByteArray) (x : ByteArray) (w : World) (e1 : l1.length = n1) (e2 : l2.length = n2)
    (hA1 : ∀ (i : Nat) (hi : i < l1.length), ∃ g o, A1 = some ⟨g, o, none⟩ ∧ w.cell? ⟨g, o + i, none⟩ = some (.string l1[i]))
    (hA2 : ∀ (i : Nat) (hi : i < l2.length), ∃ g o, A2 = some ⟨g, o, none⟩ ∧ w.cell? ⟨g, o + i, none⟩ = some (.string l2[i])) :
    Calls Try.prog 5 #[.slice A1 n1 c1, .slice A2 n2 c2, .string x] w fun e w' => e = .returned (.bool true) ∧ Below w.heap.size w w' := by
  by_cases h : 30 < n1 ∨ 30 < n2
  · exact joins_far A1 A2 n1 n2 c1 c2 x w h
  · subst e1 e2
    exact joins_walk A1 A2 c1 c2 l1 l2 x w (by simp; omega) (by simp; omega) (by omega) (by omega) hA1 hA2
end Go.Proofs.Yteojcdpmlhlfaaa
