/- refinerylaw07.Awake answers true. No condition. -/
import Derived.Test.YtffnkbicbfjnpaaGOrderO
namespace Go.Proofs.Ytffnkbicbfjnpaa
open Go.RowKit
theorem Gr.form {w : World} {base : Nat} {gv : Value} {b a : List (List Nat)} {S : Nat → Prop} (h : Gr w base gv b a S) : ∃ q p, gv = .agg #[.slice (some ⟨q, 0, none⟩) b.length b.length, .slice (some ⟨p, 0, none⟩) b.length b.length] := by
  obtain ⟨q, p, _, _, e, _⟩ := h.ex
  exact ⟨q, p, e⟩
/-- A box that holds a graph stays. -/
def GBox (w : World) (g : Nat) (gv : Value) : Prop := w.cell? ⟨g, 0, none⟩ = some (gv.cells.getD 0 undef) ∧ w.cell? ⟨g, 1, none⟩ = some (gv.cells.getD 1 undef)
theorem GBox.only {w w' : World} {g : Nat} {gv : Value} {T : Nat → Prop} (h : GBox w g gv) (ho : Only T w w') (hn : ¬ T g) : GBox w' g gv :=
  have hlt := World.block_lt_of_cell? w _ h.1
  ⟨(ho.cell (p := ⟨g, 0, none⟩) hlt hn).trans h.1, (ho.cell (p := ⟨g, 1, none⟩) hlt hn).trans h.2⟩
theorem GBox.later {w w' : World} {g : Nat} {gv : Value} (h : GBox w g gv) (hb : Below w.heap.size w w') : GBox w' g gv :=
  h.only (Only.of_below hb) (fun e => by have := World.block_lt_of_cell? w _ h.1; simp only at this; omega)
set_option maxRecDepth 100000 in
set_option maxHeartbeats 4000000 in
theorem gawake_calls (W : World) : Calls Try.prog 35 #[] W fun e W' => e = .returned (.bool true) ∧ Below W.heap.size W W' := by
  go_enter Try.func35, Try.ntmps35
  go_wp2_with fail
  refine (new_calls 3 (by decide) W).mono ?_
  rintro e w1 ⟨gv, rfl, ⟨S, hg⟩, hb1⟩
  obtain ⟨q, p, rfl⟩ := hg.form
  have HG := Lib.hid (And.intro hg hb1)
  clear hg hb1
  go_wp2_with fail
  generalize hX : World.alloc w1 _ = X at *
  obtain ⟨hx, hbx, hz⟩ := boxed hX rfl
  have hg2 := HG.out.1.later hbx
  have hxl : w1.heap.size < X.heap.size := by omega
  have hns : ¬ S w1.heap.size := fun e => by have := (HG.out.1.lt e).1; omega
  have H2 := Lib.hid (And.intro hg2 (And.intro hx (And.intro (below_two HG.out.2 hbx) (And.intro hxl hns))))
  clear hX hx hbx hz hg2 HG hxl hns
  refine (join_new H2.out.1 0 1 [] [] rfl rfl (by simp) (by simp) (by simp)).mono ?_
  rintro e w3 ⟨rfl, S3, hg3, ho3, hs3⟩
  have hns3 : ¬ S3 w1.heap.size := fun e => (hs3 _ e).elim (fun e => H2.out.2.2.2.2 e) (fun e => by have := H2.out.2.2.2.1; omega)
  have hx3 := (ho3.block _ H2.out.2.2.2.1 H2.out.2.2.2.2).trans H2.out.2.1
  have x0 := cell_of_blk _ _ _ _ _ hx3 0
  have x1 := cell_of_blk _ _ _ _ _ hx3 1
  have hb3 : Below W.heap.size W w3 := H2.out.2.2.1.trans (ho3.below H2.out.2.2.1.size (fun k hk e => by have := (H2.out.1.lt e).2; omega))
  have hz3 : w1.heap.size < w3.heap.size := lt_blk hx3
  have H3 := Lib.hid (And.intro hg3 (And.intro hx3 (And.intro hb3 (And.intro hz3 hns3))))
  clear hg3 ho3 hs3 hns3 hx3 hb3 hz3 H2
  simp at x0 x1
  go_wp2_with fail
  refine (join_new H3.out.1 0 2 [1] [] rfl rfl (by simp) (by simp) (by simp)).mono ?_
  rintro e w4 ⟨rfl, S4, hg4, ho4, hs4⟩
  have hx4 := (ho4.block _ H3.out.2.2.2.1 H3.out.2.2.2.2).trans H3.out.2.1
  have hb4 : Below W.heap.size W w4 := H3.out.2.2.1.trans (ho4.below H3.out.2.2.1.size (fun k hk e => by have := (H3.out.1.lt e).2; omega))
  have H4 := Lib.hid (And.intro hg4 hb4)
  clear hg4 ho4 hs4 hb4 H3 x0 x1
  have x0 := cell_of_blk _ _ _ _ _ hx4 0
  have x1 := cell_of_blk _ _ _ _ _ hx4 1
  simp at x0 x1
  clear hx4
  go_wp2_with fail
  refine (WO.gives H4.out.1 ⟨by simp, fun i l hl x hx => ?_⟩).mono ?_
  · have hi : i < 3 := by simpa using (List.getElem?_eq_some_iff.1 hl).1
    match i, hi with
    | 0, _ => simp at hl; subst hl; simp at hx; rcases hx with rfl | rfl <;> decide
    | 1, _ => simp at hl; subst hl; simp at hx
    | 2, _ => simp at hl; subst hl; simp at hx
  rintro e w5 ⟨v, rfl, hr, hb5⟩
  have hl : (dfs0 (nb (((List.replicate 3 []).set 0 ([] ++ [1])).set 0 ([1] ++ [2]))) (((List.replicate 3 []).set 0 ([] ++ [1])).set 0 ([1] ++ [2])).length).post.reverse = [0, 2, 1] := by decide
  rw [hl] at hr
  rcases hr.form with ⟨_, h⟩ | ⟨g, o, c, rfl, _⟩
  · cases h
  have d0 := hr.cell 0 (iv 0) rfl
  have d1 := hr.cell 1 (iv 2) rfl
  have d2 := hr.cell 2 (iv 1) rfl
  have HB := Lib.hid (below_two H4.out.2 hb5)
  simp [iv] at d0 d1 d2
  clear hr hl hb5 x0 x1 H4
  go_wp2_with fail
  go_ret
  exact ⟨rfl, HB.out⟩
end Go.Proofs.Ytffnkbicbfjnpaa
