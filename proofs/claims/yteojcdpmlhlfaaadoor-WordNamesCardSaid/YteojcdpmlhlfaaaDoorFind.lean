/- What word.Find and word.Op.Name answer: the place of a word in the table, if it stands there; the word at a place. Condition: the table holds its twelve texts. -/
import Derived.Test.YteojcdpmlhlfaaaDoorPlain
import Derived.Laws.Rows
import Derived.Lib.Hide
namespace Go.Proofs.YteojcdpmlhlfaaaDoor
open Go.RowKit

def namesV : Array Value := #[.string ⟨#[97, 100, 100]⟩, .string ⟨#[115, 117, 98]⟩, .string ⟨#[109, 117, 108]⟩, .string ⟨#[100, 105, 118]⟩, .string ⟨#[114, 101, 109]⟩, .string ⟨#[97, 110, 100]⟩, .string ⟨#[111, 114]⟩, .string ⟨#[120, 111, 114]⟩, .string ⟨#[115, 104, 108]⟩, .string ⟨#[115, 104, 114]⟩, .string ⟨#[101, 113]⟩, .string ⟨#[108, 116]⟩]
def nmL (k : Nat) : List UInt8 := match k with
  | 0 => [97, 100, 100]
  | 1 => [115, 117, 98]
  | 2 => [109, 117, 108]
  | 3 => [100, 105, 118]
  | 4 => [114, 101, 109]
  | 5 => [97, 110, 100]
  | 6 => [111, 114]
  | 7 => [120, 111, 114]
  | 8 => [115, 104, 108]
  | 9 => [115, 104, 114]
  | 10 => [101, 113]
  | 11 => [108, 116]
  | _ => []
def nm (k : Nat) : ByteArray := ⟨(nmL k).toArray⟩
def NamesAt (w : World) : Prop := ∃ t fr, w.heap[0]? = some (.cells namesV t fr)

theorem cases12 {p : Nat → Prop} (h0 : p 0) (h1 : p 1) (h2 : p 2) (h3 : p 3) (h4 : p 4) (h5 : p 5) (h6 : p 6) (h7 : p 7) (h8 : p 8) (h9 : p 9) (h10 : p 10) (h11 : p 11) (k : Nat) (hk : k < 12) : p k := by
  have : k = 0 ∨ k = 1 ∨ k = 2 ∨ k = 3 ∨ k = 4 ∨ k = 5 ∨ k = 6 ∨ k = 7 ∨ k = 8 ∨ k = 9 ∨ k = 10 ∨ k = 11 := by omega
  rcases this with rfl | rfl | rfl | rfl | rfl | rfl | rfl | rfl | rfl | rfl | rfl | rfl <;> assumption
theorem ixk (k : Nat) (hk : k < 12) : ∀ w : World, (Instr.index 45 (.agg namesV) (.int .i64 (k : Int))).run Tryd.prog w = .ok (.string (nm k)) w := by
  have key : ∀ k : Nat, k < 12 → ∀ w : World, (Instr.index 45 (.agg namesV) (.int .i64 (k : Int))).run Tryd.prog w = .ok (.string (nm k)) w :=
    cases12 (p := fun k => ∀ w : World, (Instr.index 45 (.agg namesV) (.int .i64 (k : Int))).run Tryd.prog w = .ok (.string (nm k)) w)
      (fun _ => by kernel_rfl) (fun _ => by kernel_rfl) (fun _ => by kernel_rfl) (fun _ => by kernel_rfl) (fun _ => by kernel_rfl) (fun _ => by kernel_rfl) (fun _ => by kernel_rfl) (fun _ => by kernel_rfl) (fun _ => by kernel_rfl) (fun _ => by kernel_rfl) (fun _ => by kernel_rfl) (fun _ => by kernel_rfl)
  exact key k hk
theorem cellk {w : World} (h : NamesAt w) (k : Nat) (hk : k < 12) : w.cell? ⟨0, k, none⟩ = some (.string (nm k)) := by
  obtain ⟨t, fr, hg⟩ := h
  rw [cell_of_row w 0 k _ t fr hg]
  exact cases12 (p := fun k => namesV[k]? = some (.string (nm k))) rfl rfl rfl rfl rfl rfl rfl rfl rfl rfl rfl rfl k hk
theorem nmL_ne (j k : Nat) (hj : j < 12) (hk : k < j) : ((nm k).toList == (nm j).toList) = false := by
  have e : ∀ i, (nm i).toList = nmL i := fun i => by simp [nm]
  rw [e, e]
  have key : ∀ j : Nat, j < 12 → ∀ k, k < j → (nmL k == nmL j) = false := by decide
  exact key j hj k hk

set_option maxHeartbeats 400000 in
theorem find_yes (j : Nat) (hj : j < 12) (w : World) (hn : NamesAt w) : Calls Tryd.prog 14 #[.string (nm j)] w fun e w' => e = .returned (.tuple #[.int .u8 (j : Int), .bool true]) ∧ w = w' := by
  obtain ⟨tt, fr, hg⟩ := hn
  go_enter Tryd.func14, Tryd.ntmps14
  go_wp2_with (refine wpList_load_row rfl 45 _ rfl 0 rfl tt _ fr _ hg Tryd.underlying45 rfl (by kernel_rfl) ?_)
  go_loop [7] (fun i => ∃ k : Nat, k ≤ j ∧ i = .int .i64 k) (fun i => 12 - (intOf i).toNat)
  case atStart => exact ⟨0, by omega, rfl⟩
  case round =>
    obtain ⟨k, hk, rfl⟩ := hrel
    have hix := ixk k (by omega)
    by_cases hlt : k < j
    · have ht := nmL_ne j k hj hlt
      go_wp2
      go_round
      case rel => exact ⟨k + 1, by omega, by go_num⟩
      case measure => simp [intOf]; omega
    · obtain rfl : k = j := by omega
      have ht : ((nm k).toList == (nm k).toList) = true := by simp
      go_wp2
      go_ret2
      exact ⟨rfl, rfl⟩
set_option maxHeartbeats 400000 in
theorem find_no (s : ByteArray) (hs : ∀ k, k < 12 → ((nm k).toList == s.toList) = false) (w : World) (hn : NamesAt w) : Calls Tryd.prog 14 #[.string s] w fun e w' => e = .returned (.tuple #[.int .u8 0, .bool false]) ∧ w = w' := by
  obtain ⟨tt, fr, hg⟩ := hn
  have HS := Lib.hid hs; clear hs
  go_enter Tryd.func14, Tryd.ntmps14
  go_wp2_with (refine wpList_load_row rfl 45 _ rfl 0 rfl tt _ fr _ hg Tryd.underlying45 rfl (by kernel_rfl) ?_)
  go_loop [7] (fun i => ∃ k : Nat, k ≤ 12 ∧ i = .int .i64 k) (fun i => 12 - (intOf i).toNat)
  case atStart => exact ⟨0, by omega, rfl⟩
  case round =>
    obtain ⟨k, hk, rfl⟩ := hrel
    by_cases hlt : k < 12
    · have hix := ixk k (by omega)
      have ht := HS.out k hlt
      go_wp2
      go_round
      case rel => exact ⟨k + 1, by omega, by go_num⟩
      case measure => simp [intOf]; omega
    · obtain rfl : k = 12 := by omega
      go_wp2
      go_ret2
      exact ⟨rfl, rfl⟩
theorem name_at (j : Nat) (hj : j < 12) (w : World) (hn : NamesAt w) : Calls Tryd.prog 15 #[.int .u8 (j : Int)] w fun e w' => e = .returned (.string (nm j)) ∧ w = w' := by
  have h := cellk hn j hj
  go_enter Tryd.func15, Tryd.ntmps15
  go_wp2
  go_ret
  exact ⟨rfl, rfl⟩
theorem name_no (o : Int) (h0 : 12 ≤ o) (w : World) : Calls Tryd.prog 15 #[.int .u8 o] w fun e w' => e = .returned (.string ⟨#[]⟩) ∧ w = w' := by
  go_enter Tryd.func15, Tryd.ntmps15
  go_wp2
  go_ret
  exact ⟨rfl, rfl⟩
theorem traps_yes (o : Int) (h : o = 3 ∨ o = 4) (w : World) : Calls Tryd.prog 16 #[.int .u8 o] w fun e w' => e = .returned (.bool true) ∧ w = w' := by
  rcases h with rfl | rfl <;> (go_enter Tryd.func16, Tryd.ntmps16; go_wp2; go_ret; exact ⟨rfl, rfl⟩)
theorem traps_no (o : Int) (h3 : (o == 3) = false) (h4 : (o == 4) = false) (w : World) : Calls Tryd.prog 16 #[.int .u8 o] w fun e w' => e = .returned (.bool false) ∧ w = w' := by
  go_enter Tryd.func16, Tryd.ntmps16
  go_wp2
  go_ret
  exact ⟨rfl, rfl⟩
end Go.Proofs.YteojcdpmlhlfaaaDoor
