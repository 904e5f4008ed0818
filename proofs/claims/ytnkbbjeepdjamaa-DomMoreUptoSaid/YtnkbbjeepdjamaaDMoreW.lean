/- refinerylaw08.DomMore: the walk. Conditions: the numbers are of their kinds. -/
import Derived.Test.YtnkbbjeepdjamaaDOvW
import Derived.Test.YtnkbbjeepdjamaaDMoreP
import Derived.Test.YtnkbbjeepdjamaaDEdge
namespace Go.Proofs.Ytnkbbjeepdjamaa
open Go.RowKit
theorem reach_seen {b : List (List Nat)} (hf : Few b) (hn : 0 < b.length) : ∃ s, s = (dfs0 (nb b) b.length).seen ∧ s.length = b.length ∧ ∀ i, i < b.length → (tr s i = true ↔ Way (nb b) 0 i) := by
  have hw := dfs0_whole (nb b) b.length hn (fun i w hw => by
    unfold nb at hw
    rw [List.getD_eq_getElem?_getD] at hw
    cases h : b[i]? with
    | none => rw [h] at hw; simp at hw
    | some l => rw [h] at hw; exact hf.lt i l h w hw)
  refine ⟨_, rfl, hw.len, fun i hi => ?_⟩
  have h1 := hw.seen i hi
  rw [← h1]
  unfold tr
  rw [List.getD_eq_getElem?_getD, List.getD_eq_getElem?_getD, List.getElem?_eq_getElem (by rw [hw.len]; exact hi)]
  rfl
/-- While places are joined in a row. -/
def AJm (W : World) (q p B m k : Nat) (X : World) : Prop := ∃ S, Gr X W.heap.size (.agg #[.slice (some ⟨q, 0, none⟩) m m, .slice (some ⟨p, 0, none⟩) m m]) (graphB m (rowE k)) (graphA m (rowE k)) S ∧ X.heap[B]? = some (.cells #[.slice (some ⟨q, 0, none⟩) m m, .slice (some ⟨p, 0, none⟩) m m] 28 (0, 0)) ∧ Below W.heap.size W X ∧ (¬ S B)
theorem AJm.join {W : World} {q p B m k : Nat} {X : World} (h : AJm W q p B m k X) (hk : k + 1 < m) (hm : m ≤ 30) :
    Calls Try.prog 27 #[.agg #[.slice (some ⟨q, 0, none⟩) m m, .slice (some ⟨p, 0, none⟩) m m], .int .i64 (k : Int), .int .i64 ((k : Int) + 1)] X fun e w' => e = .returned (.tuple #[]) ∧ AJm W q p B m (k + 1) w' := by
  obtain ⟨S, h1, h2, h3, h4⟩ := h
  have hr := graph_rows m (by omega) (rowE k)
  have hl := rowE_len k
  have hB := graphB_snoc m (rowE k) (k, k + 1)
  have hA := graphA_snoc m (rowE k) (k, k + 1)
  rw [← rowE_succ] at hB hA
  simp only [Nat.mod_eq_of_lt (show k < m by omega), Nat.mod_eq_of_lt hk] at hB hA
  have e1 : ((k : Int) + 1) = ((k + 1 : Nat) : Int) := by omega
  rw [e1]
  refine (join_any h1 k (k + 1) (by rw [hr.lb]; omega) (by rw [hr.lb]; exact hk) ?_ ?_).mono ?_
  · have := (hr.few k _ (getD_some (by rw [hr.lb]; omega))).1; omega
  · have := (hr.fewA (k + 1) _ (getD_some (by rw [hr.la]; exact hk))).1; omega
  · rintro e w' ⟨rfl, S', g1, g2, g3⟩
    rw [← hB, ← hA] at g1
    refine ⟨rfl, S', g1, (g2.block B (lt_blk h2) h4).trans h2, h3.trans (g2.below h3.size (fun g hg e => by have := (h1.lt e).2; omega)), fun e => ?_⟩
    rcases g3 B e with e | e
    · exact h4 e
    · have := lt_blk h2; omega
theorem AJm.box {W : World} {q p B m k : Nat} {X : World} (h : AJm W q p B m k X) : X.heap[B]? = some (.cells #[.slice (some ⟨q, 0, none⟩) m m, .slice (some ⟨p, 0, none⟩) m m] 28 (0, 0)) := by
  obtain ⟨_, _, h, _⟩ := h
  exact h
theorem AJm.tree {W : World} {q p B m k : Nat} {X : World} (h : AJm W q p B m k X) (hm : k + 1 = m) (hm2 : m ≤ 30) :
    Below W.heap.size W X ∧ Calls Try.prog 19 #[.agg #[.slice (some ⟨q, 0, none⟩) m m, .slice (some ⟨p, 0, none⟩) m m]] X fun e w' => ∃ qu qb qd vs up deep, e = .returned (treeV qu qb qd m) ∧ TR w' X.heap.size m qu qb qd vs up deep (belows up m m) ∧ LT.DTree (nb (graphB m (rowE k))) m up deep ∧ Below X.heap.size X w' := by
  obtain ⟨S8, hg8, _, hb8, _⟩ := h
  have hrw := graph_rows m (by omega) (rowE k)
  have hrl := rowE_len k
  exact ⟨hb8, of_calls (n := m) (by omega) (by omega) X hg8 hrw.lb (hrw.fewOf (by omega)) (graph_twin m (by omega) (rowE k)) (fun i l hi => by have := (hrw.few i l hi).1; omega) (fun i l hi => by have := (hrw.fewA i l hi).1; omega) hb8.size⟩
set_option maxHeartbeats 2000000 in
theorem more_far (ea eb en : Nat) (_hea : ea ≤ 255) (_heb : eb ≤ 255) (_hen : en ≤ 255) (N : Nat) (A : Option Addr) (c : Nat) (es : List (Nat × Nat)) (W : World) (hl : ¬ es.length ≤ 40) :
    Calls Try.prog 6 #[.agg #[.int .u8 N, .slice A es.length c], .int .u8 (ea : Int), .int .u8 (eb : Int), .int .u8 (en : Int)] W fun e W' => e = .returned (.bool true) ∧ Below W.heap.size W W' := by
  go_enter Try.func6, Try.ntmps6
  go_wp2_with fail
  generalize hX : World.alloc W _ = X
  obtain ⟨hx, hbx, hz⟩ := boxed hX rfl
  have HX := Lib.hid (And.intro hx (And.intro hbx hz))
  clear hX hx hbx hz
  refine (awake8 X).mono ?_
  rintro e W1 ⟨rfl, hb⟩
  have H1 := Lib.hid (And.intro ((hb.block _ (lt_blk HX.out.1)).trans HX.out.1) (below_two HX.out.2.1 hb))
  clear hb HX
  have x0 := cell_of_blk _ _ _ _ _ H1.out.1 0
  have x1 := cell_of_blk _ _ _ _ _ H1.out.1 1
  simp at x0 x1
  go_wp2_with fail
  clear x0 x1
  refine (light_calls7 N A es.length c W1).mono ?_
  rintro e W2 ⟨rfl, hb⟩
  have hbel := below_two H1.out.2 hb
  rw [decide_eq_false hl]
  clear hb H1
  go_wp2_with fail
  go_ret
  exact ⟨rfl, hbel⟩
set_option maxRecDepth 100000 in
set_option maxHeartbeats 8000000 in
theorem more_near (ea eb en : Nat) (hea : ea ≤ 255) (heb : eb ≤ 255) (hen : en ≤ 255) (N : Nat) (A : Option Addr) (c : Nat) (es : List (Nat × Nat)) (W : World) (hN : N ≤ 255) (hA : Edges W A es) (hc : es.length ≤ c) (hl : es.length ≤ 40) :
    Calls Try.prog 6 #[.agg #[.int .u8 N, .slice A es.length c], .int .u8 (ea : Int), .int .u8 (eb : Int), .int .u8 (en : Int)] W fun e W' => e = .returned (.bool true) ∧ Below W.heap.size W W' := by
  have HA := Lib.hid (And.intro hA hc)
  clear hA hc
  obtain ⟨n, hn⟩ : ∃ n, 1 + N % 12 = n := ⟨_, rfl⟩
  have hn0 : 0 < n := by omega
  have hn12 : n ≤ 12 := by omega
  have HN := Lib.hid hn
  clear hn
  go_enter Try.func6, Try.ntmps6
  go_wp2_with fail
  generalize hX : World.alloc W _ = X
  obtain ⟨hx, hbx, hz⟩ := boxed hX rfl
  have HX := Lib.hid (And.intro hx (And.intro hbx hz))
  clear hX hx hbx hz
  refine (awake8 X).mono ?_
  rintro e W1 ⟨rfl, hb⟩
  have H1 := Lib.hid (And.intro ((hb.block _ (lt_blk HX.out.1)).trans HX.out.1) (below_two HX.out.2.1 hb))
  clear hb HX
  have x0 := cell_of_blk _ _ _ _ _ H1.out.1 0
  have x1 := cell_of_blk _ _ _ _ _ H1.out.1 1
  simp at x0 x1
  go_wp2_with fail
  clear x0 x1
  refine (light_calls7 N A es.length c W1).mono ?_
  rintro e W2 ⟨rfl, hb⟩
  have H2 := Lib.hid (And.intro ((hb.block _ (lt_blk H1.out.1)).trans H1.out.1) (below_two H1.out.2 hb))
  rw [decide_eq_true hl]
  clear hb H1
  have x0 := cell_of_blk _ _ _ _ _ H2.out.1 0
  have x1 := cell_of_blk _ _ _ _ _ H2.out.1 1
  simp at x0 x1
  go_wp2_with fail
  clear x0 x1
  have hsc := small_calls N hN A c es W2 (HA.out.1.later H2.out.2) HA.out.2 (by omega)
  rw [HN.out] at hsc
  have HSC := Lib.hid hsc
  clear hsc
  refine HSC.out.mono ?_
  rintro e W3 ⟨gv, q, vs, S, rfl, hg, hm, hap, hb3⟩
  have hrw := graph_rows n hn0 es
  have htw := graph_twin n hn0 es
  generalize hbdef : graphB n es = b at *
  have HBD := Lib.hid hbdef
  clear hbdef
  generalize graphA n es = a at *
  obtain ⟨q1, p1, rfl⟩ := hg.form
  rw [hrw.lb] at hg ⊢
  have HG := Lib.hid (And.intro (hg.lower H2.out.2.size) (And.intro (hm.lower H2.out.2.size) (And.intro (below_two H2.out.2 hb3) (And.intro hrw htw))))
  have HSB := Lib.hid ((hb3.block _ (lt_blk H2.out.1)).trans H2.out.1)
  clear hg hm hap hb3 hrw htw HSC H2
  go_wp2_with fail
  generalize hX : World.alloc W3 _ = X
  obtain ⟨hx, hbx, hz⟩ := boxed hX rfl
  have hlb := HG.out.2.2.2.1.lb
  have hfew : Few b := HG.out.2.2.2.1.fewOf (by omega)
  have hbl : ∀ (i : Nat) (l : List Nat), b[i]? = some l → l.length ≤ 1048575 := fun i l hi => by have := (HG.out.2.2.2.1.few i l hi).1; omega
  have hal : ∀ (i : Nat) (l : List Nat), a[i]? = some l → l.length ≤ 1048575 := fun i l hi => by have := (HG.out.2.2.2.1.fewA i l hi).1; omega
  have hof := of_calls hn0 (by omega) X (HG.out.1.later hbx) hlb hfew HG.out.2.2.2.2 hbl hal (below_two HG.out.2.2.1 hbx).size
  have HOF := Lib.hid hof
  have HF := Lib.hid (And.intro hlb (And.intro hfew hbl))
  have HX := Lib.hid (And.intro (HG.out.2.1.later hbx) (below_two HG.out.2.2.1 hbx))
  obtain ⟨B, hB⟩ : ∃ k, W3.heap.size = k := ⟨_, rfl⟩
  have HGB0 := Lib.hid (And.intro (HG.out.1.later hbx) (And.intro (hB ▸ hx) ((hbx.block _ (lt_blk HSB.out)).trans HSB.out)))
  rw [hB]
  clear hX hx hbx hz hlb hfew hbl hal hof HG hB HSB
  refine HOF.out.mono ?_
  rintro e Y ⟨qu, qb, qd, ts, up, deep, rfl, htr, hdt, hb⟩
  unfold treeV
  have HGB1 := Lib.hid (And.intro (HGB0.out.1.later hb) (And.intro ((hb.block _ (lt_blk HGB0.out.2.1)).trans HGB0.out.2.1) ((hb.block _ (lt_blk HGB0.out.2.2)).trans HGB0.out.2.2)))
  have HY := Lib.hid (And.intro htr (And.intro hdt (And.intro (below_two HX.out.2 hb) (HX.out.1.later hb))))
  clear htr hdt hb HOF HX HGB0
  go_upto_region 7 with (fail)
  generalize hZ : World.alloc Y _ = Z
  obtain ⟨hz, hbz, hzz⟩ := boxed hZ rfl
  obtain ⟨T, hT⟩ : ∃ k, Y.heap.size = k := ⟨_, rfl⟩
  have HZ := Lib.hid (And.intro (HY.out.1.later hbz) (And.intro (below_two HY.out.2.2.1 hbz) (And.intro (hT ▸ hz) (HY.out.2.2.2.later hbz))))
  have HDT := Lib.hid HY.out.2.1
  have HGB := Lib.hid (And.intro (HGB1.out.1.later hbz) (And.intro ((hbz.block _ (lt_blk HGB1.out.2.1)).trans HGB1.out.2.1) ((hbz.block _ (lt_blk HGB1.out.2.2)).trans HGB1.out.2.2)))
  rw [hT]
  clear hZ hz hbz hzz hT HY HGB1
  have s0 := cell_of_blk _ _ _ _ _ HGB.out.2.2 0
  have s1 := cell_of_blk _ _ _ _ _ HGB.out.2.2 1
  have hWZ := lt_blk HGB.out.2.2
  simp at s0 s1
  go_upto_region 8 with (fail)
  generalize hZ1 : World.alloc Z _ = Z1
  obtain ⟨hm, hbm, hz⟩ := boxed hZ1 rfl
  obtain ⟨M, hM⟩ : ∃ k, Z.heap.size = k := ⟨_, rfl⟩
  have hs1 := (hbm.block _ hWZ).trans HGB.out.2.2
  have s1' := cell_of_blk _ _ _ _ _ hs1 1
  have hbg : Below Z1.heap.size Z1 (Z1.alloc (.cells #[] 43)) := (Below.refl _ _).alloc (Nat.le_refl _) _
  have hng := heap_alloc_new' Z1 (.cells #[] 43)
  obtain ⟨v1, w5, hr1, ho1, hw1⟩ := edges_copy (c := c) hng (HA.out.1.later (below_two HZ.out.2.1 (below_two hbm hbg))) (by omega)
  obtain ⟨A1, c1, rfl, hc1⟩ := ho1.slice
  have hbp : Below w5.heap.size w5 (w5.alloc (.cells #[.int .u8 (ea : Int), .int .u8 (eb : Int)] 43)) := (Below.refl _ _).alloc (Nat.le_refl _) _
  have hnp := heap_alloc_new' w5 (.cells #[.int .u8 (ea : Int), .int .u8 (eb : Int)] 43)
  have hl5 : ∀ g, (Value.slice A1 es.length c1).ownBlock = some g → g < w5.heap.size := fun g hg => (ho1.lt hg).2
  have hz5 := hw1.size
  simp only [World.size_alloc] at hz5
  obtain ⟨v2, w6, hr2, ho2, hw2⟩ := own2_append (ho1.only (Only.of_below hbp) (fun g hg e => by have := hl5 g hg; omega)) ⟨w5.heap.size, 0, none⟩ ea eb (cell_of_blk _ _ _ _ _ hnp 0) (cell_of_blk _ _ _ _ _ hnp 1) (by simp; omega) (by omega)
  obtain ⟨A2, c2, rfl, hc2⟩ := ho2.slice
  have hall : Only (fun k => Z1.heap.size ≤ k) Z1 w6 := ((((Only.of_below hbg).trans hw1 (fun k _ e => by omega)).trans (Only.of_below hbp) (fun k hk e => by have := hbg.size; omega)).trans hw2 (fun k _ e => (ho1.lt e).1))
  have hmz : M < Z1.heap.size := by have := lt_blk hm; omega
  rw [hM] at hm
  have hm6 := (hall.block M hmz (by omega)).trans hm
  have m1 := cell_of_blk _ _ _ _ _ hm6 1
  have f1 : w6.frozen? ⟨M, 1, none⟩ = false := by simp [World.frozen?, hm6]
  simp at s1' m1
  have hlen : (es ++ [(ea, eb)]).length = es.length + 1 := by simp
  rw [hlen] at hc2 ho2 hr2
  have hWZ1 : W.heap.size < Z1.heap.size := by omega
  have HR1 := Lib.hid hr1
  have HR2 := Lib.hid hr2
  have HM := Lib.hid (And.intro hm6 (And.intro ho2 (And.intro hc2 (And.intro hall (And.intro hbm hM)))))
  rw [hM]
  clear hr1 hr2 hm hbm hz hs1 s0 s1 hbg hng ho1 hw1 hc1 hbp hnp hl5 hz5 ho2 hw2 hc2 hall hm6 hlen hM hZ1
  go_upto_region 9 with (first | (at_builtin; refine Lib.wpList_append_run _ rfl _ _ _ _ rfl _ _ rfl rfl _ _ HR1.out ?_; clear HR1) | (at_builtin; refine Lib.wpList_append_run _ rfl _ _ _ _ rfl _ _ rfl rfl _ _ HR2.out ?_) | fail)
  have hbZ2 : Below Z.heap.size Z (w6.setCell ⟨M, 1, none⟩ (.slice A2 (es.length + 1) c2)) := ((HM.out.2.2.2.2.1).trans (HM.out.2.2.2.1.below HM.out.2.2.2.2.1.size (fun k hk e => by have := HM.out.2.2.2.2.1.size; omega))).setCell (by show Z.heap.size ≤ M; have := HM.out.2.2.2.2.2; omega) _
  have hm2 : (w6.setCell ⟨M, 1, none⟩ (.slice A2 (es.length + 1) c2)).heap[M]? = some (.cells #[.int .u8 N, .slice A2 (es.length + 1) c2] 24 (0, 0)) := by
    simp [World.setCell, Array.getElem?_modify, HM.out.1]
  have ho2 : Own2 (w6.setCell ⟨M, 1, none⟩ (.slice A2 (es.length + 1) c2)) Z1.heap.size (.slice A2 (es.length + 1) c2) (es ++ [(ea, eb)]) := HM.out.2.1.only (Only.setCell _ _ _) (fun g hg e => HM.out.2.1.ne_blk HM.out.1 (by decide) (by rw [hg, show g = M from e]))
  have hed := ho2.edges (fun e he => by
    rcases List.mem_append.1 he with h | h
    · obtain ⟨i, hi⟩ := List.getElem?_of_mem h
      have := HA.out.1 i e.1 e.2 hi
      exact ⟨this.1, this.2.1⟩
    · have : e = (ea, eb) := by simpa using h
      subst this; exact ⟨hea, heb⟩)
  have HB2 := Lib.hid (And.intro hbZ2 (And.intro hm2 (And.intro hed HM.out.2.2.1)))
  generalize w6.setCell ⟨M, 1, none⟩ (.slice A2 (es.length + 1) c2) = Z2 at *
  have m0 := cell_of_blk _ _ _ _ _ hm2 0
  have m1' := cell_of_blk _ _ _ _ _ hm2 1
  have hlM := lt_blk hm2
  simp at m0 m1'
  clear hbZ2 hm2 ho2 hed HM f1 m1 s1' hmz hWZ hWZ1
  have hsc := small_calls N hN A2 c2 (es ++ [(ea, eb)]) Z2 HB2.out.2.2.1 (by simp; exact HB2.out.2.2.2) (by simp; omega)
  rw [HN.out] at hsc
  have hlen : (es ++ [(ea, eb)]).length = es.length + 1 := by simp
  rw [hlen] at hsc
  have HSC := Lib.hid hsc
  clear hsc
  go_wp2_with fail
  clear m0 m1'
  refine HSC.out.mono ?_
  rintro e W7 ⟨gv2, q2, vs2, S2, rfl, hg2, hmt2, hap2, hb7⟩
  have hrw2 := graph_rows n hn0 (es ++ [(ea, eb)])
  have htw2 := graph_twin n hn0 (es ++ [(ea, eb)])
  have hmore := fun k c => nb_more hn0 es (ea, eb) (k := k) (c := c)
  rw [HBD.out, hlen] at *
  generalize graphB n (es ++ [(ea, eb)]) = b2 at *
  generalize graphA n (es ++ [(ea, eb)]) = a2 at *
  obtain ⟨q5, p5, rfl⟩ := hg2.form
  rw [hrw2.lb] at hg2 ⊢
  have HG2 := Lib.hid (And.intro hg2 (And.intro hmore (And.intro (below_two HB2.out.1 hb7) (And.intro hrw2 (And.intro htw2 hb7.size)))))
  clear hg2 hmt2 hap2 hb7 hrw2 htw2 hmore HSC hlM hlen
  go_upto_region 10 with (fail)
  generalize hX8 : World.alloc W7 _ = X8
  obtain ⟨hx, hbx, hz⟩ := boxed hX8 rfl
  obtain ⟨B2, hB2⟩ : ∃ k, W7.heap.size = k := ⟨_, rfl⟩
  have hlb := HG2.out.2.2.2.1.lb
  have hfew : Few b2 := HG2.out.2.2.2.1.fewOf (by omega)
  have hbl : ∀ (i : Nat) (l : List Nat), b2[i]? = some l → l.length ≤ 1048575 := fun i l hi => by have := (HG2.out.2.2.2.1.few i l hi).1; omega
  have hal : ∀ (i : Nat) (l : List Nat), a2[i]? = some l → l.length ≤ 1048575 := fun i l hi => by have := (HG2.out.2.2.2.1.fewA i l hi).1; omega
  have hof := of_calls hn0 (by omega) X8 (HG2.out.1.later hbx) hlb hfew HG2.out.2.2.2.2.1 hbl hal (by have := hbx.size; have := HG2.out.2.2.2.2.2; omega)
  have HOF2 := Lib.hid hof
  have HF2 := Lib.hid (And.intro HG2.out.2.1 (below_two HG2.out.2.2.1 hbx))
  rw [hB2] at hx ⊢
  have y0 := cell_of_blk _ _ _ _ _ hx 0
  have y1 := cell_of_blk _ _ _ _ _ hx 1
  simp at y0 y1
  clear hX8 hx hbx hz hlb hfew hbl hal hof HG2 hB2
  go_wp2_with fail
  clear y0 y1
  refine HOF2.out.mono ?_
  rintro e Y2 ⟨qu2, qb2, qd2, ts2, up2, deep2, rfl, htr2, hdt2, hb2⟩
  unfold treeV
  have HY2 := Lib.hid (And.intro htr2 (And.intro hdt2 (below_two HF2.out.2 hb2)))
  clear htr2 hdt2 hb2 HOF2
  go_upto_region 11 with (fail)
  generalize hV : World.alloc Y2 _ = V
  obtain ⟨hx, hbx, hz⟩ := boxed hV rfl
  obtain ⟨T2, hT2⟩ : ∃ k, Y2.heap.size = k := ⟨_, rfl⟩
  have HV := Lib.hid (And.intro (HY2.out.1.later hbx) (And.intro (hT2 ▸ hx) (below_two HY2.out.2.2 hbx)))
  have HDT2 := Lib.hid HY2.out.2.1
  have HMO := Lib.hid HF2.out.1
  rw [hT2]
  clear hV hx hbx hz hT2 HY2 HF2
  have hbB := (HV.out.2.2.block _ (lt_blk HGB.out.2.1)).trans HGB.out.2.1
  have g0 := cell_of_blk _ _ _ _ _ hbB 0
  have g1 := cell_of_blk _ _ _ _ _ hbB 1
  simp at g0 g1
  have hre := reached_calls (HGB.out.1.later HV.out.2.2) HF.out.2.1
  rw [HF.out.1] at hre
  have HRE := Lib.hid hre
  clear hbB hre
  go_wp2_with fail
  clear g0 g1
  refine HRE.out.mono ?_
  rintro e V2 ⟨q3, rfl, hs3, hq3, hb3⟩
  obtain ⟨s, hs, hsl, hsw⟩ := reach_seen HF.out.2.1 (by rw [HF.out.1]; exact hn0)
  rw [HF.out.1] at hs hsl hsw
  rw [← hs] at hs3
  have HV2 := Lib.hid (And.intro hs3 (And.intro hsl (And.intro hsw (And.intro (HV.out.1.later hb3) (And.intro ((hb3.block _ (lt_blk HV.out.2.1)).trans HV.out.2.1) (below_two HV.out.2.2 hb3))))))
  clear hs3 hsl hsw hs hq3 hb3 HRE
  have hTZ := (HV2.out.2.2.2.2.2.block _ (lt_blk HZ.out.2.2.1)).trans HZ.out.2.2.1
  have HT := Lib.hid (And.intro hTZ (And.intro (HZ.out.1.later HV2.out.2.2.2.2.2) (below_two HZ.out.2.1 HV2.out.2.2.2.2.2)))
  clear hTZ
  go_wp2_with fail
  go_loopw [58] (fun v wr => ∃ i : Nat, v = .int .i64 (i : Int) ∧ Hid (i ≤ n ∧ Below V2.heap.size V2 wr)) (fun v _ => n - (intOf v).toNat)
  case atStart => exact ⟨0, rfl, Lib.hid ⟨Nat.zero_le _, Below.refl _ _⟩⟩
  case round =>
    obtain ⟨wo, rfl⟩ : ∃ x : World, x = wr := ⟨_, rfl⟩
    obtain ⟨i, rfl, HI⟩ := hrel
    by_cases hi : i < n
    · have pp1 : ((i : Int) < (n : Int)) = True := eq_true (by omega)
      have i0 : 0 ≤ (i : Int) := by omega
      have i1 : (i : Int) < (n : Int) := by omega
      go_wp2_with fail
      go_loopw [63] (fun v wr => ∃ j : Nat, v = .int .i64 (j : Int) ∧ Hid (j ≤ n ∧ Below V2.heap.size V2 wr)) (fun v _ => n - (intOf v).toNat)
      case atStart => exact ⟨0, rfl, Lib.hid ⟨Nat.zero_le _, HI.out.2⟩⟩
      case round =>
        obtain ⟨wq, rfl⟩ : ∃ x : World, x = wr := ⟨_, rfl⟩
        obtain ⟨j, rfl, HJ⟩ := hrel
        by_cases hj : j < n
        · have pp2 : ((j : Int) < (n : Int)) = True := eq_true (by omega)
          have j0 : 0 ≤ (j : Int) := by omega
          have j1 : (j : Int) < (n : Int) := by omega
          have hs := HV2.out.1.only (Only.of_below HJ.out.2) (by have := lt_blk HV2.out.1; omega)
          have ci := seen_tr hs HV2.out.2.1 hi
          have cj := seen_tr hs HV2.out.2.1 hj
          have hwi := HV2.out.2.2.1 i hi
          have hwj := HV2.out.2.2.1 j hj
          obtain ⟨ri, hri⟩ : ∃ r, tr s i = r := ⟨_, rfl⟩
          obtain ⟨rj, hrj⟩ : ∃ r, tr s j = r := ⟨_, rfl⟩
          rw [hri] at ci hwi
          rw [hrj] at cj hwj
          have HW := Lib.hid (And.intro hwi hwj)
          clear hs hwi hwj hri hrj
          cases ri
          · go_wp2_with fail
            go_roundw
            case rel => exact ⟨j + 1, by go_num, Lib.hid ⟨by omega, HJ.out.2⟩⟩
            case measure => simp [intOf]; omega
          · cases rj
            · go_wp2_with fail
              go_roundw
              case rel => exact ⟨j + 1, by go_num, Lib.hid ⟨by omega, HJ.out.2⟩⟩
              case measure => simp [intOf]; omega
            · skip
              have hTr := (HJ.out.2.block _ (lt_blk HV2.out.2.2.2.2.1)).trans HV2.out.2.2.2.2.1
              have x0 := cell_of_blk _ _ _ _ _ hTr 0
              have x1 := cell_of_blk _ _ _ _ _ hTr 1
              have x2 := cell_of_blk _ _ _ _ _ hTr 2
              simp at x0 x1 x2
              clear hTr
              go_wp2_with fail
              clear x0 x1 x2 ci cj
              refine (over_in (HV2.out.2.2.2.1.later HJ.out.2) HDT2.out i j hi hj).mono ?_
              rintro e Z8 ⟨⟨r, rfl, hr⟩, hb1⟩
              have HO1 := Lib.hid (And.intro hr (below_two HJ.out.2 hb1))
              clear hr hb1
              cases r
              · go_wp2_with fail
                go_roundw
                case rel => exact ⟨j + 1, by go_num, Lib.hid ⟨by omega, HO1.out.2⟩⟩
                case measure => simp [intOf]; omega
              · skip
                have hTr := (HO1.out.2.block _ (lt_blk HT.out.1)).trans HT.out.1
                have x0 := cell_of_blk _ _ _ _ _ hTr 0
                have x1 := cell_of_blk _ _ _ _ _ hTr 1
                have x2 := cell_of_blk _ _ _ _ _ hTr 2
                simp at x0 x1 x2
                clear hTr
                go_wp2_with fail
                clear x0 x1 x2
                refine (over_in (HT.out.2.1.later HO1.out.2) HDT.out i j hi hj).mono ?_
                rintro e Z9 ⟨⟨r, rfl, hr⟩, hb1⟩
                obtain rfl : r = true := hr.2 (ov_more HMO.out (HW.out.1.1 trivial) (HW.out.2.1 trivial) (HO1.out.1.1 trivial))
                have HO2 := Lib.hid (below_two HO1.out.2 hb1)
                clear hr hb1
                go_wp2_with fail
                go_roundw
                case rel => exact ⟨j + 1, by go_num, Lib.hid ⟨by omega, HO2.out⟩⟩
                case measure => simp [intOf]; omega
        · obtain rfl : j = n := by have := HJ.out.1; omega
          have pp2 : ((j : Int) < (j : Int)) = False := eq_false (by omega)
          go_wp2_with fail
          go_roundw
          case rel => exact ⟨i + 1, by go_num, Lib.hid ⟨by omega, HJ.out.2⟩⟩
          case measure => simp [intOf]; omega
    · obtain rfl : i = n := by have := HI.out.1; omega
      have pp1 : ((i : Int) < (i : Int)) = False := eq_false (by omega)
      go_upto_region 22 with (fail)
      have HI2 := Lib.hid (below_two HT.out.2.2 HI.out.2)
      clear HV HT HV2 HDT2 HMO HGB HZ HDT HF HB2 HBD HI pp1 hi
      generalize wo = Q at *
      obtain ⟨k, hk⟩ : ∃ k, en % 20 = k := ⟨_, rfl⟩
      have hk20 : k < 20 := by omega
      have hek : (en : Int) % 20 = (k : Int) := by omega
      have e1 : (1 + (k : Int)) = ((k + 1 : Nat) : Int) := by omega
      have HE1 := Lib.hid e1
      have HEK := Lib.hid hek
      clear hk e1 hek
      go_wp2_with fail
      rw [HEK.out, HE1.out]
      refine (new_calls (k + 1) (by omega) Q).mono ?_
      rintro e w1 ⟨gv, rfl, ⟨S9, hg9⟩, hb9⟩
      obtain ⟨q9, p9, rfl⟩ := hg9.form
      rw [List.length_replicate] at hg9 ⊢
      obtain ⟨m, hm⟩ : ∃ m, k + 1 = m := ⟨_, rfl⟩
      have HM9 := Lib.hid hm
      rw [hm] at hg9 ⊢
      have HG9 := Lib.hid (And.intro hg9 (And.intro (below_two HI2.out hb9) hb9))
      clear hg9 hb9 hm
      go_upto_region 23 with (fail)
      generalize hX9 : World.alloc w1 _ = X9
      obtain ⟨hx, hbx, hz⟩ := boxed hX9 rfl
      obtain ⟨B9, hB9⟩ : ∃ k, w1.heap.size = k := ⟨_, rfl⟩
      have hns : ¬ S9 B9 := fun e => by have := (HG9.out.1.lt e).1; omega
      have J0 := Lib.hid (show AJm Q q9 p9 B9 m 0 X9 from ⟨S9, HG9.out.1.later hbx, hB9 ▸ hx, below_two HG9.out.2.2 hbx, hns⟩)
      rw [hB9]
      clear hX9 hx hbx hz hns hB9
      go_wp2_with fail
      rw [HEK.out]
      go_loopw [99] (fun v wr => ∃ i : Nat, v = .int .i64 (i : Int) ∧ Hid (i ≤ k ∧ AJm Q q9 p9 B9 m i wr)) (fun v _ => k - (intOf v).toNat)
      case atStart => exact ⟨0, rfl, Lib.hid ⟨Nat.zero_le _, J0.out⟩⟩
      case round =>
        obtain ⟨wj, rfl⟩ : ∃ x : World, x = wr := ⟨_, rfl⟩
        obtain ⟨j, rfl, HJ⟩ := hrel
        have hx := HJ.out.2.box
        have g0 := cell_of_blk _ _ _ _ _ hx 0
        have g1 := cell_of_blk _ _ _ _ _ hx 1
        simp at g0 g1
        clear hx
        by_cases hj : j < k
        · have pp1 : ((j : Int) < (k : Int)) = True := eq_true (by omega)
          have pp2 : (j : Int) ≤ 20 := by omega
          go_wp2_with fail
          clear g0 g1
          refine (HJ.out.2.join (by have := HM9.out; omega) (by have := HM9.out; omega)).mono ?_
          rintro e w2 ⟨rfl, hj2⟩
          have HJ2 := Lib.hid hj2
          clear hj2
          go_wp2_with fail
          go_roundw
          case rel => exact ⟨j + 1, by go_num, Lib.hid ⟨by omega, HJ2.out⟩⟩
          case measure => simp [intOf]; omega
        · obtain rfl : j = k := by have := HJ.out.1; omega
          have pp1 : ((j : Int) < (j : Int)) = False := eq_false (by omega)
          clear J0 HG9
          obtain ⟨hb8, hof⟩ := HJ.out.2.tree HM9.out (by have := HM9.out; omega)
          have HOF := Lib.hid hof
          have HB8 := Lib.hid (below_two HI2.out hb8)
          clear hb8 hof
          go_wp2_with fail
          clear pp1 g0 g1
          refine HOF.out.mono ?_
          rintro e Y9 ⟨qu9, qb9, qd9, ts9, up9, deep9, rfl, htr9, hdt9, hb9⟩
          unfold treeV
          have hBX := (hb9.block _ (lt_blk HJ.out.2.box)).trans HJ.out.2.box
          have HY9 := Lib.hid (And.intro htr9 (And.intro hdt9 (And.intro (below_two HB8.out hb9) hBX)))
          clear htr9 hdt9 hb9 HOF hBX
          go_upto_region 29 with (fail)
          generalize hV9 : World.alloc Y9 _ = V9
          obtain ⟨hx, hbx, hz⟩ := boxed hV9 rfl
          obtain ⟨T9, hT9⟩ : ∃ k, Y9.heap.size = k := ⟨_, rfl⟩
          have HV9 := Lib.hid (And.intro (HY9.out.1.later hbx) (And.intro (hT9 ▸ hx) (And.intro (below_two HY9.out.2.2.1 hbx) ((hbx.block _ (lt_blk HY9.out.2.2.2)).trans HY9.out.2.2.2))))
          have HDT9 := Lib.hid HY9.out.2.1
          rw [hT9]
          clear hV9 hx hbx hz hT9 HY9
          have g0 := cell_of_blk _ _ _ _ _ HV9.out.2.2.2 0
          have g1 := cell_of_blk _ _ _ _ _ HV9.out.2.2.2 1
          simp at g0 g1
          go_wp2_with fail
          clear g0 g1
          refine (len_calls q9 m p9 m m m V9).mono ?_
          rintro e Y10 ⟨rfl, hb10⟩
          have hm30 : m ≤ 30 := by have := HM9.out; omega
          have HY10 := Lib.hid hb10
          clear hb10
          go_wp2_with fail
          go_loopw [112] (fun v wr => ∃ i : Nat, v = .int .i64 (i : Int) ∧ Hid (i ≤ m ∧ Below V9.heap.size V9 wr)) (fun v _ => m - (intOf v).toNat)
          case atStart => exact ⟨0, rfl, Lib.hid ⟨Nat.zero_le _, HY10.out⟩⟩
          case round =>
            obtain ⟨wx, rfl⟩ : ∃ x : World, x = wr := ⟨_, rfl⟩
            obtain ⟨x, rfl, HX⟩ := hrel
            by_cases hx : x < m
            · have pp1 : ((x : Int) < (m : Int)) = True := eq_true (by omega)
              have hTr := (HX.out.2.block _ (lt_blk HV9.out.2.2.2)).trans HV9.out.2.2.2
              have g0 := cell_of_blk _ _ _ _ _ hTr 0
              have g1 := cell_of_blk _ _ _ _ _ hTr 1
              simp at g0 g1
              clear hTr
              go_wp2_with fail
              clear g0 g1
              refine (len_calls q9 m p9 m m m wx).mono ?_
              rintro e Y11 ⟨rfl, hb11⟩
              have HY11 := Lib.hid (below_two HX.out.2 hb11)
              clear hb11
              go_wp2_with fail
              go_loopw [117] (fun v wr => ∃ i : Nat, v = .int .i64 (i : Int) ∧ Hid (i ≤ m ∧ Below V9.heap.size V9 wr)) (fun v _ => m - (intOf v).toNat)
              case atStart => exact ⟨0, rfl, Lib.hid ⟨Nat.zero_le _, HY11.out⟩⟩
              case round =>
                obtain ⟨wy, rfl⟩ : ∃ x : World, x = wr := ⟨_, rfl⟩
                obtain ⟨y, rfl, HY⟩ := hrel
                by_cases hy : y < m
                · have pp2 : ((y : Int) < (m : Int)) = True := eq_true (by omega)
                  have hov : LT.Ov (nb (graphB m (rowE j))) x y ↔ x ≤ y := by
                    have h0 := HM9.out
                    rw [← h0]
                    exact ov_row (by omega) (by omega)
                  have HOV := Lib.hid hov
                  clear hov
                  have hTr := (HY.out.2.block _ (lt_blk HV9.out.2.1)).trans HV9.out.2.1
                  have x0 := cell_of_blk _ _ _ _ _ hTr 0
                  have x1 := cell_of_blk _ _ _ _ _ hTr 1
                  have x2 := cell_of_blk _ _ _ _ _ hTr 2
                  simp at x0 x1 x2
                  clear hTr
                  go_wp2_with fail
                  clear x0 x1 x2
                  refine (over_in (HV9.out.1.later HY.out.2) HDT9.out x y hx hy).mono ?_
                  rintro e Z9 ⟨⟨r, rfl, hr⟩, hb1⟩
                  have HZ9 := Lib.hid (below_two HY.out.2 hb1)
                  by_cases hxy : x ≤ y
                  · have pp3 : ((y : Int) < (x : Int)) = False := eq_false (by omega)
                    have pp4 : ((x : Int) ≤ (y : Int)) = True := eq_true (by omega)
                    obtain rfl : r = true := hr.2 (HOV.out.2 hxy)
                    clear hr hb1 hxy
                    go_wp2_with fail
                    go_roundw
                    case rel => exact ⟨y + 1, by go_num, Lib.hid ⟨by omega, HZ9.out⟩⟩
                    case measure => simp [intOf]; omega
                  · have pp3 : ((y : Int) < (x : Int)) = True := eq_true (by omega)
                    have pp4 : ((x : Int) ≤ (y : Int)) = False := eq_false (by omega)
                    obtain rfl : r = false := by
                      cases r with
                      | false => rfl
                      | true => exact absurd (HOV.out.1 (hr.1 rfl)) hxy
                    clear hr hb1 hxy
                    go_wp2_with fail
                    go_roundw
                    case rel => exact ⟨y + 1, by go_num, Lib.hid ⟨by omega, HZ9.out⟩⟩
                    case measure => simp [intOf]; omega
                · obtain rfl : y = m := by have := HY.out.1; omega
                  have pp2 : ((y : Int) < (y : Int)) = False := eq_false (by omega)
                  go_wp2_with fail
                  go_roundw
                  case rel => exact ⟨x + 1, by go_num, Lib.hid ⟨by omega, HY.out.2⟩⟩
                  case measure => simp [intOf]; omega
            · obtain rfl : x = m := by have := HX.out.1; omega
              have pp1 : ((x : Int) < (x : Int)) = False := eq_false (by omega)
              have hbl := below_two HV9.out.2.2.1 HX.out.2
              have HBL := Lib.hid hbl
              clear hbl
              go_wp2_with fail
              go_ret
              exact ⟨rfl, HBL.out⟩
theorem more_calls (ea eb en : Nat) (hea : ea ≤ 255) (heb : eb ≤ 255) (hen : en ≤ 255) (N : Nat) (A : Option Addr) (c : Nat) (es : List (Nat × Nat)) (W : World) (hN : N ≤ 255) (hA : Edges W A es) (hc : es.length ≤ c) :
    Calls Try.prog 6 #[.agg #[.int .u8 N, .slice A es.length c], .int .u8 (ea : Int), .int .u8 (eb : Int), .int .u8 (en : Int)] W fun e W' => e = .returned (.bool true) ∧ Below W.heap.size W W' := by
  by_cases hl : es.length ≤ 40
  · exact more_near ea eb en hea heb hen N A c es W hN hA hc hl
  · exact more_far ea eb en hea heb hen N A c es W hl
theorem more_int (x y z : Int) (hx : 0 ≤ x ∧ x ≤ 255) (hy : 0 ≤ y ∧ y ≤ 255) (hz : 0 ≤ z ∧ z ≤ 255) (N : Nat) (A : Option Addr) (c : Nat) (es : List (Nat × Nat)) (W : World) (hN : N ≤ 255) (hA : Edges W A es) (hc : es.length ≤ c) :
    Calls Try.prog 6 #[.agg #[.int .u8 N, .slice A es.length c], .int .u8 x, .int .u8 y, .int .u8 z] W fun e W' => e = .returned (.bool true) ∧ Below W.heap.size W W' := by
  obtain ⟨a, rfl⟩ : ∃ a : Nat, x = (a : Int) := ⟨x.toNat, by omega⟩
  obtain ⟨b, rfl⟩ : ∃ b : Nat, y = (b : Int) := ⟨y.toNat, by omega⟩
  obtain ⟨n, rfl⟩ : ∃ n : Nat, z = (n : Int) := ⟨z.toNat, by omega⟩
  exact more_calls a b n (by omega) (by omega) (by omega) N A c es W hN hA hc
end Go.Proofs.Ytnkbbjeepdjamaa
