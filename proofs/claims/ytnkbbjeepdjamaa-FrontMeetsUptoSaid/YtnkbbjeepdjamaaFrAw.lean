/- refinerylaw09.Awake answers true. No condition. -/
import Derived.Test.YtnkbbjeepdjamaaFrG
namespace Go.Proofs.Ytnkbbjeepdjamaa
open Go.RowKit
set_option maxRecDepth 100000 in
set_option maxHeartbeats 4000000 in
theorem awake9 (W : World) : Calls Try.prog 31 #[] W fun e W' => e = .returned (.bool true) ∧ Below W.heap.size W W' := by
  go_enter Try.func31, Try.ntmps31
  go_wp2_with fail
  refine (new_calls 4 (by decide) W).mono ?_
  rintro e w1 ⟨gv, rfl, ⟨S, hg⟩, hb1⟩
  obtain ⟨q, p, rfl⟩ := hg.form
  have HG := Lib.hid (And.intro hg hb1)
  clear hg hb1
  go_wp2_with fail
  generalize hX : World.alloc w1 _ = X at *
  obtain ⟨hx, hbx, hz⟩ := boxed hX rfl
  obtain ⟨B, hB⟩ : ∃ B, w1.heap.size = B := ⟨_, rfl⟩
  have hns : ¬ S B := fun e => by have := (HG.out.1.lt e).1; omega
  have hg0 := HG.out.1.later hbx
  have J0 := Lib.hid (show AJ W q p B 0 X from ⟨S, hg0, hB ▸ hx, below_two HG.out.2 hbx, hns⟩)
  rw [hB]
  clear hX hx hbx hz hns hB HG hg0
  refine (J0.out.join 0 1 (by decide) (by decide) (graphB_snoc 4 (es8.take 0) (0, 1)).symm (graphA_snoc 4 (es8.take 0) (0, 1)).symm).mono ?_
  rintro e X1 ⟨rfl, hj⟩
  obtain ⟨_, _, hx, _, _⟩ := id hj
  have x0 := cell_of_blk _ _ _ _ _ hx 0
  have x1 := cell_of_blk _ _ _ _ _ hx 1
  have hlB := lt_blk hx
  have J1 := Lib.hid hj
  simp at x0 x1
  clear hx hj J0
  go_wp2_with fail
  clear x0 x1 hlB
  refine (J1.out.join 0 2 (by decide) (by decide) (graphB_snoc 4 (es8.take 1) (0, 2)).symm (graphA_snoc 4 (es8.take 1) (0, 2)).symm).mono ?_
  rintro e X2 ⟨rfl, hj⟩
  obtain ⟨_, _, hx, _, _⟩ := id hj
  have x0 := cell_of_blk _ _ _ _ _ hx 0
  have x1 := cell_of_blk _ _ _ _ _ hx 1
  have hlB := lt_blk hx
  have J2 := Lib.hid hj
  simp at x0 x1
  clear hx hj J1
  go_wp2_with fail
  clear x0 x1 hlB
  refine (J2.out.join 1 3 (by decide) (by decide) (graphB_snoc 4 (es8.take 2) (1, 3)).symm (graphA_snoc 4 (es8.take 2) (1, 3)).symm).mono ?_
  rintro e X3 ⟨rfl, hj⟩
  obtain ⟨_, _, hx, _, _⟩ := id hj
  have x0 := cell_of_blk _ _ _ _ _ hx 0
  have x1 := cell_of_blk _ _ _ _ _ hx 1
  have hlB := lt_blk hx
  have J3 := Lib.hid hj
  simp at x0 x1
  clear hx hj J2
  go_wp2_with fail
  clear x0 x1 hlB
  refine (J3.out.join 2 3 (by decide) (by decide) (graphB_snoc 4 (es8.take 3) (2, 3)).symm (graphA_snoc 4 (es8.take 3) (2, 3)).symm).mono ?_
  rintro e X4 ⟨rfl, hj⟩
  obtain ⟨_, _, hx, _, _⟩ := id hj
  have x0 := cell_of_blk _ _ _ _ _ hx 0
  have x1 := cell_of_blk _ _ _ _ _ hx 1
  have hlB := lt_blk hx
  have J4 := Lib.hid hj
  simp at x0 x1
  clear hx hj J3
  have htk : es8.take 4 = es8 := rfl
  obtain ⟨S4, hg4, hx4, hb4, _⟩ := J4.out
  rw [htk] at hg4
  have hrw := graph_rows 4 (by decide) es8
  have htw := graph_twin 4 (by decide) es8
  have hS : GSr B q p 4 W.heap.size (graphB 4 es8) (graphA 4 es8) S4 W X4 := ⟨x0, x1, Lib.hid ⟨hg4, hb4⟩⟩
  have hSd := hS.later (X' := X4.drew) ((Below.refl X4.heap.size X4).drew)
  have HF := Lib.hid (show (graphB 4 es8).length = 4 ∧ Few (graphB 4 es8) ∧ Twin 4 (graphB 4 es8) (graphA 4 es8) ∧ (∀ (i : Nat) (l : List Nat), (graphB 4 es8)[i]? = some l → l.length ≤ 1048575) ∧ (∀ (i : Nat) (l : List Nat), (graphA 4 es8)[i]? = some l → l.length ≤ 1048575) ∧ W.heap.size ≤ X4.heap.size from
    ⟨hrw.lb, hrw.fewOf (by decide), htw, fun i l hi => by have := (hrw.few i l hi).1; have : es8.length = 4 := rfl; omega, fun i l hi => by have := (hrw.fewA i l hi).1; have : es8.length = 4 := rfl; omega, hb4.size⟩)
  have HB4 := Lib.hid hb4
  clear hg4 hx4 hb4 hrw htw htk J4 x0 x1
  go_wp2_with fail
  go_region_held3 (fun Y => Y.cell? ⟨B, 0, none⟩ = some (.slice (some ⟨q, 0, none⟩) 4 4) ∧ Y.cell? ⟨B, 1, none⟩ = some (.slice (some ⟨p, 0, none⟩) 4 4) ∧ Hid (Gr Y W.heap.size (.agg #[.slice (some ⟨q, 0, none⟩) 4 4, .slice (some ⟨p, 0, none⟩) 4 4]) (graphB 4 es8) (graphA 4 es8) S4 ∧ Below W.heap.size W Y))
    (first | exact hSd | exact (hSd.later hb1).later hb2 | exact hSd.later hb1)
    (first
      | (go_at_call 19; refine (of_calls (by decide) (by decide) _ hSd.2.2.out.1 HF.out.1 HF.out.2.1 HF.out.2.2.1 HF.out.2.2.2.1 HF.out.2.2.2.2.1 HF.out.2.2.2.2.2).mono ?_; rintro e w1 ⟨qu, qb, qd, ts, up, deep, rfl, htr, hdt, hb1⟩)
      | (go_at_call 32; refine (front_calls (hSd.later hb1).2.2.out.1 HF.out.1 HF.out.2.1 HF.out.2.2.1 (by decide) HF.out.2.2.2.2.1 htr hdt).mono ?_; rintro e w2 ⟨Q, S', rfl, hbg, hb2⟩))
  obtain ⟨v1, xs1, c1, hs1, hl1, _, hx1⟩ := hbg.get (r := 1) (by decide)
  obtain ⟨v0, xs0, c0, hs0, hl0, _, hx0⟩ := hbg.get (r := 0) (by decide)
  have e1 : xs1 = [3] := srt_ext ordI _ _ hs1.srt (by simp [Srt]) (fun x => by
    rw [hx1]
    constructor
    · rintro ⟨y, rfl, hy⟩
      have := ((front8 1 y).1 hy).1
      subst this; simp
    · intro h
      have h : x = 3 := by simpa using h
      exact ⟨3, h, (front8 1 3).2 ⟨rfl, .inl rfl⟩⟩)
  have e0 : xs0 = [] := srt_ext ordI _ _ hs0.srt List.Pairwise.nil (fun x => by
    rw [hx0]
    constructor
    · rintro ⟨y, rfl, hy⟩
      have := ((front8 0 y).1 hy).2
      omega
    · intro h; simp at h)
  subst e1 e0
  have HB := Lib.hid (And.intro hs1 (And.intro hs0 (below_two HB4.out (below_two ((Below.refl X4.heap.size X4).drew) (below_two hb1 hb2)))))
  rename_i hh
  have HCC := Lib.hid (And.intro (World.block_lt_of_cell? w2 _ c1) (And.intro c1 c0))
  clear hh hbg hb1 hb2 htr hdt hS hSd hl1 hx1 hl0 hx0 hs1 hs0 HF HB4 c0
  go_wp2_with fail
  clear c1
  refine (hasI Q v1 [3] 3 w2 HB.out.1 (by decide)).mono ?_
  rintro e Y1 ⟨rfl, hb⟩
  have HY1 := Lib.hid hb
  have c1 := (hb.cell (p := ⟨Q, 1, none⟩) HCC.out.1).trans HCC.out.2.1
  clear hb
  rw [show decide ((3 : Int) ∈ [(3 : Int)]) = true from rfl]
  go_wp2_with fail
  clear c1
  refine (lenI Q v1 [3] Y1 (HB.out.1.only (Only.of_below HY1.out) (fun g hg e => by have := (isset_lt HB.out.1 hg).2; omega))).mono ?_
  rintro e Y2 ⟨rfl, hb⟩
  have HY2 := Lib.hid (below_two HY1.out hb)
  have c0 := (HY2.out.cell (p := ⟨Q, 0, none⟩) HCC.out.1).trans HCC.out.2.2
  clear hb
  go_wp2_with fail
  clear c0
  refine (lenI Q v0 [] Y2 (HB.out.2.1.only (Only.of_below HY2.out) (fun g hg e => by have := (isset_lt HB.out.2.1 hg).2; omega))).mono ?_
  rintro e Y3 ⟨rfl, hb⟩
  have HY3 := Lib.hid (below_two HB.out.2.2 (below_two HY2.out hb))
  clear hb
  go_wp2_with fail
  go_ret
  exact ⟨rfl, HY3.out⟩
end Go.Proofs.Ytnkbbjeepdjamaa
