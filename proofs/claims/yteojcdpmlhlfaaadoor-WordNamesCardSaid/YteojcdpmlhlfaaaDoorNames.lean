/- What refinerylaw01.WordNames' walk comes to. Condition: the table holds its twelve texts. -/
import Derived.Test.YteojcdpmlhlfaaaDoorFind
namespace Go.Proofs.YteojcdpmlhlfaaaDoor
open Go.RowKit

theorem new_names (w : World) (hn : NamesAt w) : NamesAt (w.alloc (.cells namesV 9)) ∧ (∀ k, k < 12 → (w.alloc (.cells namesV 9)).cell? ⟨w.heap.size, k, none⟩ = some (.string (nm k))) ∧ Below w.heap.size w (w.alloc (.cells namesV 9)) := by
  have hb : Below w.heap.size w (w.alloc (.cells namesV 9)) := (Below.refl _ _).alloc (Nat.le_refl _) _
  refine ⟨?_, ?_, hb⟩
  · obtain ⟨t, fr, hg⟩ := hn
    have hlt : 0 < w.heap.size := by
      rcases Nat.lt_or_ge 0 w.heap.size with h | h
      · exact h
      · rw [Array.getElem?_eq_none h] at hg; cases hg
    exact ⟨t, fr, (hb.block 0 hlt).trans hg⟩
  · intro k hk
    rw [cell_of_row _ _ k _ _ _ (heap_alloc_new w _)]
    exact cases12 (p := fun k => namesV[k]? = some (.string (nm k))) rfl rfl rfl rfl rfl rfl rfl rfl rfl rfl rfl rfl k hk

def FoundTo (s : ByteArray) (k : Nat) (f : Int) : Prop := (f = -1 ∧ ∀ c, c < k → ((nm c).toList == s.toList) = false) ∨ (∃ c : Nat, c < k ∧ f = (c : Int) ∧ s = nm c)
theorem bytes_eq {a b : ByteArray} (h : a.toList = b.toList) : a = b := by
  have h2 : a.data = b.data := by
    apply Array.ext'
    rw [← ByteArray.toList_eq, ← ByteArray.toList_eq]; exact h
  cases a; cases b; simp_all
theorem found_yes {s : ByteArray} {k : Nat} {f : Int} (_h : FoundTo s k f) (h : ((nm k).toList == s.toList) = true) : FoundTo s (k + 1) (k : Int) := by
  refine .inr ⟨k, by omega, rfl, ?_⟩
  have h' : (nm k).toList = s.toList := by simpa using h
  exact bytes_eq h'.symm
theorem found_no {s : ByteArray} {k : Nat} {f : Int} (hf : FoundTo s k f) (h : ((nm k).toList == s.toList) = false) : FoundTo s (k + 1) f := by
  rcases hf with ⟨rfl, hc⟩ | ⟨c, hc, rfl, hs⟩
  · refine .inl ⟨rfl, fun c h' => ?_⟩
    rcases Nat.lt_or_ge c k with hlt | hge
    · exact hc c hlt
    · obtain rfl : c = k := by omega
      exact h
  · exact .inr ⟨c, by omega, rfl, hs⟩

set_option maxRecDepth 100000 in
set_option maxHeartbeats 8000000 in
theorem names_walk (s : ByteArray) (op : Int) (h0 : 0 ≤ op) (h1 : op ≤ 255) (w : World) (hn : NamesAt w) : Calls Tryd.prog 7 #[.string s, .int .u8 op] w fun e w' => e = .returned (.bool true) ∧ Below w.heap.size w w' := by
  have h11 : w.cell? ⟨0, 11, none⟩ = some (.string ⟨#[108, 116]⟩) := cellk hn 11 (by decide)
  obtain ⟨hn1, hc1, hb1⟩ := new_names w hn
  go_enter Tryd.func7, Tryd.ntmps7
  go_wp2_with (first
   | (go_at_call 8; refine (awake _ h11).mono ?_; rintro e w' ⟨rfl, rfl⟩))
  change Code.wp _ _ _ _ (w.alloc (.cells namesV 9))
  generalize w.alloc (.cells namesV 9) = W1 at *
  have HC := Lib.hid hc1; clear hc1
  generalize w.heap.size = B at HC ⊢
  go_loop [6, 19] (fun f i => ∃ (k : Nat) (g : Int), k ≤ 12 ∧ i = .int .i64 k ∧ f = .int .i64 g ∧ FoundTo s k g) (fun _ i => 12 - (intOf i).toNat)
  case atStart => exact ⟨0, -1, by omega, rfl, rfl, .inl ⟨rfl, fun c hc => by omega⟩⟩
  case round =>
    obtain ⟨k, g, hk, rfl, rfl, hf⟩ := hrel
    have HF := Lib.hid hf; clear hf
    by_cases hlt : k < 12
    · have hc := HC.out k hlt
      go_wp2_with fail
      refine (find_yes k hlt _ hn1).mono ?_; rintro e w' ⟨rfl, rfl⟩
      go_wp2_with fail
      refine (name_at k hlt _ hn1).mono ?_; rintro e w' ⟨rfl, rfl⟩
      have hself : ((nm k).toList == (nm k).toList) = true := by simp
      have hk12 : k = 0 ∨ k = 1 ∨ k = 2 ∨ k = 3 ∨ k = 4 ∨ k = 5 ∨ k = 6 ∨ k = 7 ∨ k = 8 ∨ k = 9 ∨ k = 10 ∨ k = 11 := by omega
      clear hk hlt
      rcases hk12 with rfl | rfl | rfl | rfl | rfl | rfl | rfl | rfl | rfl | rfl | rfl | rfl
      all_goals
        go_wp2_with fail
        first
          | refine (traps_yes _ (by decide) _).mono ?_
          | refine (traps_no _ (by decide) (by decide) _).mono ?_
        rintro e w' ⟨rfl, rfl⟩
        go_wp2_with fail
        first
          | refine (turns_yes _ _ (by decide)).mono ?_
          | refine (turns_no _ _ (by decide)).mono ?_
        rintro e w' ⟨rfl, rfl⟩
        go_wp2
        all_goals
          go_round
          case rel =>
            first
              | exact ⟨_, _, by decide, by go_num, rfl, found_yes HF.out (by assumption)⟩
              | exact ⟨_, _, by decide, by go_num, rfl, found_no HF.out (by assumption)⟩
          case measure => simp [intOf]
    · obtain rfl : k = 12 := by omega
      rcases HF.out with ⟨rfl, hno⟩ | ⟨j, hj, rfl, rfl⟩
      · have HNO := Lib.hid hno; clear hno
        go_wp2_with fail
        refine (find_no s HNO.out _ hn1).mono ?_; rintro e w' ⟨rfl, rfl⟩
        by_cases hop : op < 12
        · go_wp2
          go_ret
          exact ⟨rfl, hb1⟩
        · go_wp2_with fail
          refine (name_no _ (by omega) _).mono ?_; rintro e w' ⟨rfl, rfl⟩
          go_wp2_with fail
          refine (traps_no _ (by simp; omega) (by simp; omega) _).mono ?_; rintro e w' ⟨rfl, rfl⟩
          go_wp2_with fail
          refine (turns_no _ _ (by simp [turnB]; omega)).mono ?_; rintro e w' ⟨rfl, rfl⟩
          go_wp2
          go_ret
          exact ⟨rfl, hb1⟩
      · go_wp2_with fail
        refine (find_yes j hj _ hn1).mono ?_; rintro e w' ⟨rfl, rfl⟩
        by_cases hop : op < 12
        · go_wp2
          go_ret
          exact ⟨rfl, hb1⟩
        · go_wp2_with fail
          refine (name_no _ (by omega) _).mono ?_; rintro e w' ⟨rfl, rfl⟩
          go_wp2_with fail
          refine (traps_no _ (by simp; omega) (by simp; omega) _).mono ?_; rintro e w' ⟨rfl, rfl⟩
          go_wp2_with fail
          refine (turns_no _ _ (by simp [turnB]; omega)).mono ?_; rintro e w' ⟨rfl, rfl⟩
          go_wp2
          go_ret
          exact ⟨rfl, hb1⟩
end Go.Proofs.YteojcdpmlhlfaaaDoor
