/- refinerylaw13.Awake answers true. No condition. -/
import Derived.Test.YtffnkbicbfjnpaaROut
import Derived.StillTailTactics
import Derived.BigQuiet
import Derived.Deep.QuietTactic
namespace Go.Proofs.Ytffnkbicbfjnpaa
open Go.RowKit Go.Proofs.Ytffnkbicbfjnpaa.PRunFuel
open Go.Proofs.YtffnkbicbfjnpaaW.PrintWords (ReadsInt rd Kd)
def oneP : List S31 := [⟨0, [], [], ⟨3, 0, 0, 0⟩⟩]
theorem awake_run : runP oneP [] 9 = ⟨1, 0, [], 1⟩ := by
  unfold runP
  have hok : okP oneP := by
    refine ⟨by decide, by decide, by decide, fun b hb => ?_, by decide, fun b hb => ?_⟩
    · simp only [oneP, List.mem_singleton] at hb; subst hb; decide
    · simp only [oneP, List.mem_singleton] at hb; subst hb
      refine ⟨fun f hf => (by cases hf), fun x hx => (by cases hx), ?_⟩
      refine ⟨by decide, by rfl, by decide, fun n hn => ?_⟩
      simp [labelsL] at hn
  rw [if_pos hok]
  rfl
set_option maxRecDepth 100000 in
set_option maxHeartbeats 4000000 in
theorem awake_calls (W : World) : Calls Try.prog 28 #[] W fun e W' => e = .returned (.bool true) ∧ Below W.heap.size W W' := by
  go_enter Try.func28, Try.ntmps28
  go_wp2_with fail
  generalize hX : World.alloc W _ = X
  have hbX : Below W.heap.size W X := hX ▸ (Below.refl _ _).alloc (Nat.le_refl _) _
  have hq : X.heap[W.heap.size]? = some (.cells #[.int .i64 0, .slice none 0 0, .slice none 0 0, .int .u8 3, .int .i64 0, .int .i64 0, .int .i64 0] 31 (0, 0)) := hX ▸ Array.getElem?_push_size
  clear hX
  have hp : PrgR oneP X (.agg #[.slice (some ⟨W.heap.size, 0, none⟩) 1 1]) := by
    refine ⟨_, 1, rfl, by decide, ⟨rfl, by decide, fun _ => ⟨_, rfl, fun j p hj => ?_⟩⟩⟩
    have hj1 := (List.getElem?_eq_some_iff.1 hj).1
    obtain rfl : j = 0 := by simpa [oneP] using hj1
    obtain rfl : ⟨0, [], [], ⟨3, 0, 0, 0⟩⟩ = p := Option.some.inj hj
    refine ⟨_, rfl, k31_mk X ⟨0, [], [], ⟨3, 0, 0, 0⟩⟩ (A1 := none) (c1 := 0) (Nat.le_refl _) ⟨rfl, by simp, fun h => absurd h (Nat.lt_irrefl 0)⟩ (A2 := none) (c2 := 0) (Nat.le_refl _) ⟨rfl, by simp, fun h => absurd h (Nat.lt_irrefl 0)⟩, fun i u hu => ?_⟩
    have hi : i < 7 := by simpa using (List.getElem?_eq_some_iff.1 hu).1
    rw [← hu]
    match i, hi with
    | 0, _ => exact (cell_of_blk _ _ _ _ _ hq 0).trans rfl
    | 1, _ => exact (cell_of_blk _ _ _ _ _ hq 1).trans rfl
    | 2, _ => exact (cell_of_blk _ _ _ _ _ hq 2).trans rfl
    | 3, _ => exact (cell_of_blk _ _ _ _ _ hq 3).trans rfl
    | 4, _ => exact (cell_of_blk _ _ _ _ _ hq 4).trans rfl
    | 5, _ => exact (cell_of_blk _ _ _ _ _ hq 5).trans rfl
    | 6, _ => exact (cell_of_blk _ _ _ _ _ hq 6).trans rfl
  have HX := Lib.hid hbX
  clear hbX hq
  refine (runR_calls oneP _ none 0 [] 9 X (by decide) hp (by decide) (fun b hb => by simp only [oneP, List.mem_singleton] at hb; subst hb; rfl) (Go.Proofs.YtffnkbicbfjnpaaW.PrintWords.ReadsInt.nil X .i64) (Nat.le_refl _)).mono ?_
  rintro e W2 ⟨v, rfl, ⟨A, c, rfl, _, _⟩, hb2⟩
  rw [awake_run]
  have HX2 := Lib.hid (below_two HX.out hb2)
  clear hb2 hp
  dsimp only [ov]
  go_wp2_with fail
  go_ret
  exact ⟨rfl, HX2.out.alloc HX2.out.size _⟩
end Go.Proofs.Ytffnkbicbfjnpaa
