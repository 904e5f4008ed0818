/- refinerylaw08.Awake answers true. No condition. -/
import Derived.Test.YtnkbbjeepdjamaaDOf
import Derived.Test.YtnkbbjeepdjamaaDOver
namespace Go.Proofs.Ytnkbbjeepdjamaa
open Go.RowKit
def es8 : List (Nat × Nat) := [(0, 1), (0, 2), (1, 3), (2, 3)]
theorem es8_b : graphB 4 es8 = [[1, 2], [3], [3], []] := by decide
theorem nb8 (i : Nat) : nb (graphB 4 es8) i = if i = 0 then [1, 2] else if i = 1 then [3] else if i = 2 then [3] else [] := by
  rw [es8_b]
  match i with
  | 0 => rfl
  | 1 => rfl
  | 2 => rfl
  | 3 => rfl
  | i + 4 => simp [nb]
theorem way8_1 : Way (nb (graphB 4 es8)) 0 1 := (Way.refl 0).step (by rw [nb8]; simp)
theorem way8_2 : Way (nb (graphB 4 es8)) 0 2 := (Way.refl 0).step (by rw [nb8]; simp)
theorem way8_3 : Way (nb (graphB 4 es8)) 0 3 := way8_1.step (by rw [nb8]; simp)
theorem ov8_0 : LT.Ov (nb (graphB 4 es8)) 0 3 := ⟨.refl 0, way8_3, wayO_not0⟩
theorem ov8_1 : ¬ LT.Ov (nb (graphB 4 es8)) 1 3 := fun h => h.2.2 (.step (.step (.zero (by decide)) (c := 2) (by rw [nb8]; simp) (by decide)) (by rw [nb8]; simp) (by decide))
theorem ov8_2 : ¬ LT.Ov (nb (graphB 4 es8)) 2 3 := fun h => h.2.2 (.step (.step (.zero (by decide)) (c := 1) (by rw [nb8]; simp) (by decide)) (by rw [nb8]; simp) (by decide))
theorem up8 {up deep : List Int} (h : LT.DTree (nb (graphB 4 es8)) 4 up deep) : up[3]? = some 0 := by
  obtain ⟨u, d, h1, h2, h3, h4, h5⟩ := h.near 3 way8_3 (by decide)
  have hu := h.lt u h1
  have hov := (h5 u).2 (.inr (LT.ov_self h1))
  have h6 : u ≠ 1 := fun e => ov8_1 (e ▸ hov)
  have h7 : u ≠ 2 := fun e => ov8_2 (e ▸ hov)
  have h8 : u ≠ 3 := fun e => by subst e; rw [h4] at h3; have := Option.some.inj h3; omega
  obtain rfl : u = 0 := by omega
  exact h2
def AJ (W : World) (q p B k : Nat) (X : World) : Prop := ∃ S, Gr X W.heap.size (.agg #[.slice (some ⟨q, 0, none⟩) 4 4, .slice (some ⟨p, 0, none⟩) 4 4]) (graphB 4 (es8.take k)) (graphA 4 (es8.take k)) S ∧ X.heap[B]? = some (.cells #[.slice (some ⟨q, 0, none⟩) 4 4, .slice (some ⟨p, 0, none⟩) 4 4] 28 (0, 0)) ∧ Below W.heap.size W X ∧ (¬ S B)
theorem AJ.join {W : World} {q p B k : Nat} {X : World} (h : AJ W q p B k X) (i j : Nat) (hi : i < 4) (hj : j < 4) (hB : joinB (graphB 4 (es8.take k)) i j = graphB 4 (es8.take (k + 1))) (hA : joinA (graphB 4 (es8.take k)) (graphA 4 (es8.take k)) i j = graphA 4 (es8.take (k + 1))) :
    Calls Try.prog 27 #[.agg #[.slice (some ⟨q, 0, none⟩) 4 4, .slice (some ⟨p, 0, none⟩) 4 4], .int .i64 i, .int .i64 j] X fun e w' => e = .returned (.tuple #[]) ∧ AJ W q p B (k + 1) w' := by
  obtain ⟨S, h1, h2, h3, h4⟩ := h
  have hr := graph_rows 4 (by decide) (es8.take k)
  have hl : (es8.take k).length ≤ 4 := by have h5 : (es8.take k).length ≤ es8.length := List.length_take_le' _ _; have h6 : es8.length = 4 := rfl; omega
  refine (join_any h1 i j (by rw [hr.lb]; exact hi) (by rw [hr.lb]; exact hj) ?_ ?_).mono ?_
  · have := (hr.few i _ (getD_some (by rw [hr.lb]; exact hi))).1; omega
  · have := (hr.fewA j _ (getD_some (by rw [hr.la]; exact hj))).1; omega
  · rintro e w' ⟨rfl, S', g1, g2, g3⟩
    rw [hB, hA] at g1
    refine ⟨rfl, S', g1, (g2.block B (lt_blk h2) h4).trans h2, h3.trans (g2.below h3.size (fun g hg e => by have := (h1.lt e).2; omega)), fun e => ?_⟩
    rcases g3 B e with e | e
    · exact h4 e
    · have := lt_blk h2; omega
set_option maxRecDepth 100000 in
set_option maxHeartbeats 4000000 in
theorem awake8 (W : World) : Calls Try.prog 16 #[] W fun e W' => e = .returned (.bool true) ∧ Below W.heap.size W W' := by
  go_enter Try.func16, Try.ntmps16
  go_wp2_with fail
  refine (new_calls 4 (by decide) W).mono ?_
  rintro e w1 ⟨gv, rfl, ⟨S, hg⟩, hb1⟩
  obtain ⟨q, p, rfl⟩ := hg.form
  have HG := Lib.hid (And.intro hg hb1)
  clear hg hb1
  go_wp2_with fail
  generalize hX : World.alloc w1 _ = X at *
  obtain ⟨hx, hbx, hz⟩ := boxed hX rfl
  obtain ⟨B, hB⟩ : ∃ B, w1.heap.size = B := ⟨_, rfl⟩
  have hns : ¬ S B := fun e => by have := (HG.out.1.lt e).1; omega
  have hg0 := HG.out.1.later hbx
  have J0 := Lib.hid (show AJ W q p B 0 X from ⟨S, hg0, hB ▸ hx, below_two HG.out.2 hbx, hns⟩)
  rw [hB]
  clear hX hx hbx hz hns hB HG hg0
  refine (J0.out.join 0 1 (by decide) (by decide) (graphB_snoc 4 (es8.take 0) (0, 1)).symm (graphA_snoc 4 (es8.take 0) (0, 1)).symm).mono ?_
  rintro e X1 ⟨rfl, hj⟩
  obtain ⟨_, _, hx, _, _⟩ := id hj
  have x0 := cell_of_blk _ _ _ _ _ hx 0
  have x1 := cell_of_blk _ _ _ _ _ hx 1
  have hlB := lt_blk hx
  have J1 := Lib.hid hj
  simp at x0 x1
  clear hx hj J0
  go_wp2_with fail
  clear x0 x1 hlB
  refine (J1.out.join 0 2 (by decide) (by decide) (graphB_snoc 4 (es8.take 1) (0, 2)).symm (graphA_snoc 4 (es8.take 1) (0, 2)).symm).mono ?_
  rintro e X2 ⟨rfl, hj⟩
  obtain ⟨_, _, hx, _, _⟩ := id hj
  have x0 := cell_of_blk _ _ _ _ _ hx 0
  have x1 := cell_of_blk _ _ _ _ _ hx 1
  have hlB := lt_blk hx
  have J2 := Lib.hid hj
  simp at x0 x1
  clear hx hj J1
  go_wp2_with fail
  clear x0 x1 hlB
  refine (J2.out.join 1 3 (by decide) (by decide) (graphB_snoc 4 (es8.take 2) (1, 3)).symm (graphA_snoc 4 (es8.take 2) (1, 3)).symm).mono ?_
  rintro e X3 ⟨rfl, hj⟩
  obtain ⟨_, _, hx, _, _⟩ := id hj
  have x0 := cell_of_blk _ _ _ _ _ hx 0
  have x1 := cell_of_blk _ _ _ _ _ hx 1
  have hlB := lt_blk hx
  have J3 := Lib.hid hj
  simp at x0 x1
  clear hx hj J2
  go_wp2_with fail
  clear x0 x1 hlB
  refine (J3.out.join 2 3 (by decide) (by decide) (graphB_snoc 4 (es8.take 3) (2, 3)).symm (graphA_snoc 4 (es8.take 3) (2, 3)).symm).mono ?_
  rintro e X4 ⟨rfl, hj⟩
  obtain ⟨_, _, hx, _, _⟩ := id hj
  have x0 := cell_of_blk _ _ _ _ _ hx 0
  have x1 := cell_of_blk _ _ _ _ _ hx 1
  have hlB := lt_blk hx
  have J4 := Lib.hid hj
  simp at x0 x1
  clear hx hj J3
  go_wp2_with fail
  clear x0 x1 hlB
  have htk : es8.take 4 = es8 := rfl
  obtain ⟨S4, hg4, hx4, hb4, _⟩ := J4.out
  rw [htk] at hg4
  have hrw := graph_rows 4 (by decide) es8
  have hof := of_calls (n := 4) (by decide) (by decide) X4 hg4 hrw.lb (hrw.fewOf (by decide)) (graph_twin 4 (by decide) es8) (fun i l hi => by have := (hrw.few i l hi).1; have : es8.length = 4 := rfl; omega) (fun i l hi => by have := (hrw.fewA i l hi).1; have : es8.length = 4 := rfl; omega) hb4.size
  have HOF := Lib.hid hof
  have HB4 := Lib.hid hb4
  clear hg4 hx4 hb4 hrw hof htk J4
  refine HOF.out.mono ?_
  rintro e Y ⟨qu, qb, qd, vs, up, deep, rfl, htr, hdt, hb⟩
  have HY := Lib.hid (And.intro htr (And.intro hdt (below_two HB4.out hb)))
  unfold treeV
  clear htr hdt hb HOF HB4
  go_wp2_with fail
  generalize hZ : World.alloc Y _ = Z
  obtain ⟨hz, hbz, hzz⟩ := boxed hZ rfl
  obtain ⟨B2, hB2⟩ : ∃ k, Y.heap.size = k := ⟨_, rfl⟩
  have HDT := Lib.hid HY.out.2.1
  have Q0 := Lib.hid (And.intro (HY.out.1.later hbz) (And.intro (below_two HY.out.2.2 hbz) (hB2 ▸ hz)))
  rw [hB2]
  clear hZ hz hbz hzz hB2 HY
  refine (over_in Q0.out.1 HDT.out 0 3 (by decide) (by decide)).mono ?_
  rintro e Z1 ⟨⟨r, rfl, hr⟩, hb⟩
  obtain rfl : r = true := hr.2 ov8_0
  have Q1 := Lib.hid (And.intro (Q0.out.1.later hb) (And.intro (below_two Q0.out.2.1 hb) ((hb.block _ (lt_blk Q0.out.2.2)).trans Q0.out.2.2)))
  clear hb hr Q0
  have x0 := cell_of_blk _ _ _ _ _ Q1.out.2.2 0
  have x1 := cell_of_blk _ _ _ _ _ Q1.out.2.2 1
  have x2 := cell_of_blk _ _ _ _ _ Q1.out.2.2 2
  simp at x0 x1 x2
  go_wp2_with fail
  clear x0 x1 x2
  refine (over_in Q1.out.1 HDT.out 1 3 (by decide) (by decide)).mono ?_
  rintro e Z2 ⟨⟨r, rfl, hr⟩, hb⟩
  obtain rfl : r = false := by
    cases r with
    | false => rfl
    | true => exact absurd (hr.1 rfl) ov8_1
  have Q2 := Lib.hid (And.intro (Q1.out.1.later hb) (And.intro (below_two Q1.out.2.1 hb) ((hb.block _ (lt_blk Q1.out.2.2)).trans Q1.out.2.2)))
  clear hb hr Q1
  have x0 := cell_of_blk _ _ _ _ _ Q2.out.2.2 0
  have x1 := cell_of_blk _ _ _ _ _ Q2.out.2.2 1
  have x2 := cell_of_blk _ _ _ _ _ Q2.out.2.2 2
  simp at x0 x1 x2
  go_wp2_with fail
  clear x0 x1 x2
  refine (up_in Q2.out.1 3 0 (up8 HDT.out) (by decide)).mono ?_
  rintro e Z3 ⟨rfl, hb⟩
  have Q3 := Lib.hid (And.intro (Q2.out.1.later hb) (And.intro (below_two Q2.out.2.1 hb) ((hb.block _ (lt_blk Q2.out.2.2)).trans Q2.out.2.2)))
  clear hb  Q2
  have x0 := cell_of_blk _ _ _ _ _ Q3.out.2.2 0
  have x1 := cell_of_blk _ _ _ _ _ Q3.out.2.2 1
  have x2 := cell_of_blk _ _ _ _ _ Q3.out.2.2 2
  simp at x0 x1 x2
  go_wp2_with fail
  clear x0 x1 x2
  refine (up_in Q3.out.1 0 (-1) HDT.out.zero.1 (by decide)).mono ?_
  rintro e Z4 ⟨rfl, hb⟩
  have Q4 := Lib.hid (And.intro (Q3.out.1.later hb) (And.intro (below_two Q3.out.2.1 hb) ((hb.block _ (lt_blk Q3.out.2.2)).trans Q3.out.2.2)))
  clear hb  Q3
  have x0 := cell_of_blk _ _ _ _ _ Q4.out.2.2 0
  have x1 := cell_of_blk _ _ _ _ _ Q4.out.2.2 1
  have x2 := cell_of_blk _ _ _ _ _ Q4.out.2.2 2
  simp at x0 x1 x2
  go_wp2_with fail
  go_ret
  exact ⟨rfl, Q4.out.2.1⟩
end Go.Proofs.Ytnkbbjeepdjamaa
