/- refinerylaw10.Awake answers true. No condition. -/
import Derived.Test.YtnkbbjeepdjamaaLAwP
import Derived.Test.YtnkbbjeepdjamaaLOf
import Derived.Test.YtnkbbjeepdjamaaFrG
namespace Go.Proofs.Ytnkbbjeepdjamaa
open Go.RowKit
def AJl (W : World) (q p B k : Nat) (X : World) : Prop := ∃ S, Gr X W.heap.size (.agg #[.slice (some ⟨q, 0, none⟩) 2 2, .slice (some ⟨p, 0, none⟩) 2 2]) (graphB 2 (es10.take k)) (graphA 2 (es10.take k)) S ∧ X.heap[B]? = some (.cells #[.slice (some ⟨q, 0, none⟩) 2 2, .slice (some ⟨p, 0, none⟩) 2 2] 28 (0, 0)) ∧ Below W.heap.size W X ∧ (¬ S B)
theorem AJl.join {W : World} {q p B k : Nat} {X : World} (h : AJl W q p B k X) (i j : Nat) (hi : i < 2) (hj : j < 2) (hB : joinB (graphB 2 (es10.take k)) i j = graphB 2 (es10.take (k + 1))) (hA : joinA (graphB 2 (es10.take k)) (graphA 2 (es10.take k)) i j = graphA 2 (es10.take (k + 1))) :
    Calls Try.prog 27 #[.agg #[.slice (some ⟨q, 0, none⟩) 2 2, .slice (some ⟨p, 0, none⟩) 2 2], .int .i64 i, .int .i64 j] X fun e w' => e = .returned (.tuple #[]) ∧ AJl W q p B (k + 1) w' := by
  obtain ⟨S, h1, h2, h3, h4⟩ := h
  have hr := graph_rows 2 (by decide) (es10.take k)
  have hl : (es10.take k).length ≤ 2 := by have h5 : (es10.take k).length ≤ es10.length := List.length_take_le' _ _; have h6 : es10.length = 2 := rfl; omega
  refine (join_any h1 i j (by rw [hr.lb]; exact hi) (by rw [hr.lb]; exact hj) ?_ ?_).mono ?_
  · have := (hr.few i _ (getD_some (by rw [hr.lb]; exact hi))).1; omega
  · have := (hr.fewA j _ (getD_some (by rw [hr.la]; exact hj))).1; omega
  · rintro e w' ⟨rfl, S', g1, g2, g3⟩
    rw [hB, hA] at g1
    refine ⟨rfl, S', g1, (g2.block B (lt_blk h2) h4).trans h2, h3.trans (g2.below h3.size (fun g hg e => by have := (h1.lt e).2; omega)), fun e => ?_⟩
    rcases g3 B e with e | e
    · exact h4 e
    · have := lt_blk h2; omega
set_option maxRecDepth 100000 in
set_option maxHeartbeats 4000000 in
theorem awake10 (W : World) : Calls Try.prog 43 #[] W fun e W' => e = .returned (.bool true) ∧ Below W.heap.size W W' := by
  go_enter Try.func43, Try.ntmps43
  go_wp2_with fail
  refine (new_calls 2 (by decide) W).mono ?_
  rintro e w1 ⟨gv, rfl, ⟨S, hg⟩, hb1⟩
  obtain ⟨q, p, rfl⟩ := hg.form
  have HG := Lib.hid (And.intro hg hb1)
  clear hg hb1
  go_wp2_with fail
  generalize hX : World.alloc w1 _ = X at *
  obtain ⟨hx, hbx, hz⟩ := boxed hX rfl
  obtain ⟨B, hB⟩ : ∃ B, w1.heap.size = B := ⟨_, rfl⟩
  have hns : ¬ S B := fun e => by have := (HG.out.1.lt e).1; omega
  have hg0 := HG.out.1.later hbx
  have J0 := Lib.hid (show AJl W q p B 0 X from ⟨S, hg0, hB ▸ hx, below_two HG.out.2 hbx, hns⟩)
  rw [hB]
  clear hX hx hbx hz hns hB HG hg0
  refine (J0.out.join 0 1 (by decide) (by decide) (graphB_snoc 2 (es10.take 0) (0, 1)).symm (graphA_snoc 2 (es10.take 0) (0, 1)).symm).mono ?_
  rintro e X1 ⟨rfl, hj⟩
  obtain ⟨_, _, hx, _, _⟩ := id hj
  have x0 := cell_of_blk _ _ _ _ _ hx 0
  have x1 := cell_of_blk _ _ _ _ _ hx 1
  have hlB := lt_blk hx
  have J1 := Lib.hid hj
  simp at x0 x1
  clear hx hj J0
  go_wp2_with fail
  clear x0 x1 hlB
  refine (J1.out.join 1 1 (by decide) (by decide) (graphB_snoc 2 (es10.take 1) (1, 1)).symm (graphA_snoc 2 (es10.take 1) (1, 1)).symm).mono ?_
  rintro e X2 ⟨rfl, hj⟩
  obtain ⟨_, _, hx, _, _⟩ := id hj
  have x0 := cell_of_blk _ _ _ _ _ hx 0
  have x1 := cell_of_blk _ _ _ _ _ hx 1
  have J4 := Lib.hid hj
  simp at x0 x1
  clear hx hj J1
  have htk : es10.take 2 = es10 := rfl
  obtain ⟨S4, hg4, hx4, hb4, _⟩ := J4.out
  rw [htk] at hg4
  have hrw := graph_rows 2 (by decide) es10
  have htw := graph_twin 2 (by decide) es10
  have hS : GSr B q p 2 W.heap.size (graphB 2 es10) (graphA 2 es10) S4 W X2 := ⟨x0, x1, Lib.hid ⟨hg4, hb4⟩⟩
  have hSd := hS.later (X' := X2.drew) ((Below.refl X2.heap.size X2).drew)
  have HF := Lib.hid (show (graphB 2 es10).length = 2 ∧ Few (graphB 2 es10) ∧ Twin 2 (graphB 2 es10) (graphA 2 es10) ∧ (∀ (i : Nat) (l : List Nat), (graphB 2 es10)[i]? = some l → l.length ≤ 1048575) ∧ (∀ (i : Nat) (l : List Nat), (graphA 2 es10)[i]? = some l → l.length ≤ 1048575) ∧ W.heap.size ≤ X2.heap.size from
    ⟨hrw.lb, hrw.fewOf (by decide), htw, fun i l hi => by have := (hrw.few i l hi).1; have : es10.length = 2 := rfl; omega, fun i l hi => by have := (hrw.fewA i l hi).1; have : es10.length = 2 := rfl; omega, hb4.size⟩)
  have HB4 := Lib.hid hb4
  have H19 := Lib.hid (show ∀ hs : List Nat, hs.Nodup → (∀ y ∈ hs, y < 2 ∧ HB (nb (graphB 2 es10)) y) → hs.length ≤ 19 from fun hs h1 h2 => Nat.le_trans (len_range hs 2 h1 (fun x hx => (h2 x hx).1)) (by decide))
  clear hg4 hx4 hb4 hrw htw htk J4 x0 x1
  go_wp2_with fail
  go_region_held3 (fun Y => Y.cell? ⟨B, 0, none⟩ = some (.slice (some ⟨q, 0, none⟩) 2 2) ∧ Y.cell? ⟨B, 1, none⟩ = some (.slice (some ⟨p, 0, none⟩) 2 2) ∧ Hid (Gr Y W.heap.size (.agg #[.slice (some ⟨q, 0, none⟩) 2 2, .slice (some ⟨p, 0, none⟩) 2 2]) (graphB 2 es10) (graphA 2 es10) S4 ∧ Below W.heap.size W Y))
    (first | exact hSd | exact (hSd.later hb1).later hb2 | exact hSd.later hb1)
    (first
      | (go_at_call 19; refine (of_calls (by decide) (by decide) _ hSd.2.2.out.1 HF.out.1 HF.out.2.1 HF.out.2.2.1 HF.out.2.2.2.1 HF.out.2.2.2.2.1 HF.out.2.2.2.2.2).mono ?_; rintro e w1 ⟨qu, qb, qd, ts, up, deep, rfl, htr, hdt, hb1⟩)
      | (go_at_call 44; refine (loops_calls (hSd.later hb1).2.2.out.1 HF.out.1 HF.out.2.1 HF.out.2.2.1 (by decide) HF.out.2.2.2.2.1 htr hdt H19.out).mono ?_; rintro e w2 ⟨vl, L, rfl, hlr, hb2⟩))
  rename_i hh
  obtain ⟨A1, c1, rfl⟩ := one10 hlr
  obtain ⟨hr, _⟩ | ⟨g, c, rfl, hrow, _, hgl⟩ := hlr.row
  · cases hr
  · obtain ⟨d0, d1⟩ := hrow.at_ 0 ⟨1, A1, 1, c1⟩ rfl
    simp only [LEl.v, Nat.mul_zero, Nat.zero_add] at d0 d1
    have HB := Lib.hid (below_two HB4.out (below_two ((Below.refl X2.heap.size X2).drew) (below_two hb1 hb2)))
    clear hh hlr hrow hgl hb1 hb2 htr hdt hS hSd HF HB4 H19
    go_wp2_with fail
    clear d0 d1
    refine (lenA A1 1 c1 w2).mono ?_
    rintro e Y1 ⟨rfl, hb⟩
    have HY1 := Lib.hid (below_two HB.out hb)
    clear hb
    go_wp2_with fail
    go_ret
    exact ⟨rfl, HY1.out⟩
end Go.Proofs.Ytnkbbjeepdjamaa
