/- refinerylaw10.LoopsNest: the walk. Conditions: the numbers are of their kinds. -/
import Derived.Test.YtnkbbjeepdjamaaLRd
import Derived.Test.YtnkbbjeepdjamaaDOvW
import Derived.Test.YtnkbbjeepdjamaaLNestP
import Derived.Test.YtnkbbjeepdjamaaLNeT
namespace Go.Proofs.Ytnkbbjeepdjamaa
open Go.RowKit
attribute [local go_sem] Oper.semAt_some
theorem LRes.cap {B n : Nat} {g : Nat → List Nat} {A : Option Addr} {m c : Nat} {L : List LEl} {W : World} (h : LRes B g n (.slice A m c) L W) : L.length ≤ c := by
  rcases h.row with ⟨rfl, _⟩ | ⟨q, c', e, _, _, _, h3⟩
  · exact Nat.zero_le _
  · injection e with _ _ e
    rw [e]; exact h3
set_option maxHeartbeats 2000000 in
theorem lne_far (N : Nat) (A : Option Addr) (c : Nat) (es : List (Nat × Nat)) (W : World) (hl : ¬ es.length ≤ 40) :
    Calls Try.prog 14 #[.agg #[.int .u8 N, .slice A es.length c]] W fun e W' => e = .returned (.bool true) ∧ Below W.heap.size W W' := by
  go_enter Try.func14, Try.ntmps14
  go_wp2_with fail
  generalize hX : World.alloc (World.alloc W _) _ = X
  obtain ⟨hx, hx1, hz, hbx⟩ := two_bx hX
  have HX := Lib.hid (And.intro hx (And.intro hbx hx1))
  clear hX hx hx1 hbx hz
  refine (awake10 X).mono ?_
  rintro e W1 ⟨rfl, hb⟩
  have H1 := Lib.hid (And.intro ((hb.block _ (lt_blk HX.out.1)).trans HX.out.1) (And.intro (below_two HX.out.2.1 hb) ((hb.block _ (lt_blk HX.out.2.2)).trans HX.out.2.2)))
  clear hb HX
  have x0 := cell_of_blk _ _ _ _ _ H1.out.1 0
  have x1 := cell_of_blk _ _ _ _ _ H1.out.1 1
  simp at x0 x1
  go_wp2_with fail
  clear x0 x1
  refine (light_calls7 N A es.length c W1).mono ?_
  rintro e W2 ⟨rfl, hb⟩
  have hbel := below_two H1.out.2.1 hb
  have hr := (hb.block _ (lt_blk H1.out.2.2)).trans H1.out.2.2
  have x2 : W2.cell? ⟨W.heap.size + 1, 0, none⟩ = some (.bool false) := cell_of_blk _ _ _ _ _ hr 0
  have f2 : W2.frozen? ⟨W.heap.size + 1, 0, none⟩ = false := by simp [World.frozen?, hr]
  rw [decide_eq_false hl]
  clear hb H1
  go_wp2_with fail
  have v2 : (W2.setCell ⟨W.heap.size + 1, 0, none⟩ (.bool true)).cell? ⟨W.heap.size + 1, 0, none⟩ = some (.bool true) := by simp [World.setCell, World.cell?, Array.getElem?_modify, hr]
  exact bodyPost_ret (v := .bool true) (by simp [results, Try.results14, go_sem, v2]) rfl ⟨rfl, hbel.setCell (by show W.heap.size ≤ W.heap.size + 1; omega) _⟩
def ksN : List Nat := [7, 8, 9, 11, 12, 13, 14, 32, 33, 34, 35, 36, 37, 38, 39, 40, 41, 42, 43, 44, 45, 46, 47, 48, 49, 50, 51, 52, 53, 54, 55, 56, 57, 58, 59, 60, 61, 62, 63, 64, 65, 66, 67, 68, 69, 70, 71, 72, 73, 74, 75, 76, 77, 78]
def ksM : List Nat := [11, 12, 13, 14, 51, 52, 53, 54, 55, 56, 57, 58, 59, 60, 61, 62, 63, 64, 65, 66, 67, 68, 69, 70, 71, 72, 73, 74, 75, 76, 77]
/-- What is held at the outer loop's head. -/
structure NHd (X : World) (m : Nat) (u : Nat → Value) (ds : List Nat) (W : World) : Prop where
  ex : ∃ i : Nat, u 32 = .int .i64 (i : Int) ∧ i ≤ m ∧ Below X.heap.size X W ∧ Marks X.heap.size ds W
/-- And at the inner loop's: the outer one's loop in a box. -/
structure MHd (X : World) (i P : Nat) (o : Obj) (u : Nat → Value) (ds : List Nat) (W : World) : Prop where
  ex : ∃ j : Nat, u 51 = .int .i64 (j : Int) ∧ j ≤ i ∧ Below X.heap.size X W ∧ Marks X.heap.size ds W ∧ W.heap[P]? = some o
set_option linter.unusedSimpArgs false in
set_option maxRecDepth 100000 in
set_option maxHeartbeats 8000000 in
theorem lne_near (N : Nat) (A : Option Addr) (c : Nat) (es : List (Nat × Nat)) (W : World) (hN : N ≤ 255) (hA : Edges W A es) (hc : es.length ≤ c) (hl : es.length ≤ 40) :
    Calls Try.prog 14 #[.agg #[.int .u8 N, .slice A es.length c]] W fun e W' => e = .returned (.bool true) ∧ Below W.heap.size W W' := by
  have HA := Lib.hid (And.intro hA hc)
  clear hA hc
  obtain ⟨n, hn⟩ : ∃ n, 1 + N % 12 = n := ⟨_, rfl⟩
  have hn0 : 0 < n := by omega
  have hn12 : n ≤ 12 := by omega
  have HN := Lib.hid hn
  clear hn
  refine (callsIn_wide (n := 6)).1 ?_
  refine callsIn_of_wp_marks Try.func14 rfl trivial ?_ rfl
  simp only [Try.ntmps14, List.size_toArray, List.length_cons, List.length_nil, Nat.reduceAdd, Nat.reduceSub, Array.replicate_succ, Array.replicate_zero, List.push_toArray, List.append_toArray, List.nil_append, List.cons_append]
  refine wpIn_wide.2 ?_
  go_wp2_with fail
  generalize hX : World.alloc (World.alloc W _) _ = X
  obtain ⟨hx, hx1, hz, hbx⟩ := two_bx hX
  obtain ⟨R, hR⟩ : ∃ k, W.heap.size + 1 = k := ⟨_, rfl⟩
  rw [hR] at hx1 ⊢
  have HX := Lib.hid (And.intro hx (And.intro hbx hx1))
  have HR := Lib.hid (show W.heap.size ≤ R by omega)
  clear hX hx hx1 hbx hz hR
  refine (awake10 X).mono ?_
  rintro e W1 ⟨rfl, hb⟩
  have H1 := Lib.hid (And.intro ((hb.block _ (lt_blk HX.out.1)).trans HX.out.1) (And.intro (below_two HX.out.2.1 hb) ((hb.block _ (lt_blk HX.out.2.2)).trans HX.out.2.2)))
  clear hb HX
  have x0 := cell_of_blk _ _ _ _ _ H1.out.1 0
  have x1 := cell_of_blk _ _ _ _ _ H1.out.1 1
  simp at x0 x1
  go_wp2_with fail
  clear x0 x1
  refine (light_calls7 N A es.length c W1).mono ?_
  rintro e W2 ⟨rfl, hb⟩
  have H2 := Lib.hid (And.intro ((hb.block _ (lt_blk H1.out.1)).trans H1.out.1) (And.intro (below_two H1.out.2.1 hb) ((hb.block _ (lt_blk H1.out.2.2)).trans H1.out.2.2)))
  rw [decide_eq_true hl]
  clear hb H1
  have x0 := cell_of_blk _ _ _ _ _ H2.out.1 0
  have x1 := cell_of_blk _ _ _ _ _ H2.out.1 1
  simp at x0 x1
  go_wp2_with fail
  clear x0 x1
  have hsc := small_calls N hN A c es W2 (HA.out.1.later H2.out.2.1) HA.out.2 (by omega)
  rw [HN.out] at hsc
  have HSC := Lib.hid hsc
  clear hsc
  refine HSC.out.mono ?_
  rintro e W3 ⟨gv, q, vs, S, rfl, hg, hm, hap, hb3⟩
  have hrw := graph_rows n hn0 es
  have htw := graph_twin n hn0 es
  generalize graphB n es = b at *
  generalize graphA n es = a at *
  obtain ⟨q1, p1, rfl⟩ := hg.form
  rw [hrw.lb] at hg ⊢
  have HG := Lib.hid (And.intro (hg.lower H2.out.2.1.size) (And.intro ((hb3.block _ (lt_blk H2.out.2.2)).trans H2.out.2.2) (And.intro (below_two H2.out.2.1 hb3) (And.intro hrw htw))))
  clear hg hm hap hb3 hrw htw HSC H2
  go_upto_region 6 with (fail)
  generalize hX : World.alloc W3 _ = X3
  obtain ⟨hx, hbx, hz⟩ := boxed hX rfl
  have hlb := HG.out.2.2.2.1.lb
  have hfew : Few b := HG.out.2.2.2.1.fewOf (by omega)
  have hbl : ∀ (i : Nat) (l : List Nat), b[i]? = some l → l.length ≤ 1048575 := fun i l hi => by have := (HG.out.2.2.2.1.few i l hi).1; omega
  have hal : ∀ (i : Nat) (l : List Nat), a[i]? = some l → l.length ≤ 1048575 := fun i l hi => by have := (HG.out.2.2.2.1.fewA i l hi).1; omega
  have H19 := Lib.hid (show ∀ hs : List Nat, hs.Nodup → (∀ y ∈ hs, y < n ∧ HB (nb b) y) → hs.length ≤ 19 from fun hs h1 h2 => Nat.le_trans (len_range hs n h1 (fun x hx => (h2 x hx).1)) (by omega))
  obtain ⟨B, hB⟩ : ∃ k, W3.heap.size = k := ⟨_, rfl⟩
  have HF := Lib.hid (And.intro hlb (And.intro hfew (And.intro HG.out.2.2.2.2 (And.intro hbl (And.intro hal (And.intro (HG.out.1.later hbx) (And.intro (below_two HG.out.2.2.1 hbx) (And.intro (hB ▸ hx) (And.intro ((hbx.block _ (lt_blk HG.out.2.1)).trans HG.out.2.1) (show n ≤ 1048575 by omega))))))))))
  rw [hB]
  clear hX hx hbx hz hlb hfew hbl hal HG hB
  have x0 := cell_of_blk _ _ _ _ _ HF.out.2.2.2.2.2.2.2.1 0
  have x1 := cell_of_blk _ _ _ _ _ HF.out.2.2.2.2.2.2.2.1 1
  simp at x0 x1
  have hof := of_calls hn0 (by omega) X3 HF.out.2.2.2.2.2.1 HF.out.1 HF.out.2.1 HF.out.2.2.1 HF.out.2.2.2.1 HF.out.2.2.2.2.1 HF.out.2.2.2.2.2.2.1.size
  have HOF := Lib.hid hof
  clear hof
  go_wp2_with fail
  clear x0 x1
  refine HOF.out.mono ?_
  rintro e Y ⟨qu, qb, qd, ts, up, deep, rfl, htr, hdt, hb⟩
  unfold treeV
  have HY := Lib.hid (And.intro htr (And.intro (HF.out.2.2.2.2.2.1.later hb) (And.intro (below_two HF.out.2.2.2.2.2.2.1 hb) (And.intro ((hb.block _ (lt_blk HF.out.2.2.2.2.2.2.2.1)).trans HF.out.2.2.2.2.2.2.2.1) ((hb.block _ (lt_blk HF.out.2.2.2.2.2.2.2.2.1)).trans HF.out.2.2.2.2.2.2.2.2.1)))))
  have HDT := Lib.hid hdt
  clear htr hdt hb HOF
  go_upto_region 7 with (fail)
  generalize hX : World.alloc Y _ = Z
  obtain ⟨hx, hbx, hz⟩ := boxed hX rfl
  obtain ⟨T, hT⟩ : ∃ k, Y.heap.size = k := ⟨_, rfl⟩
  have HZ := Lib.hid (And.intro (HY.out.1.later hbx) (And.intro (HY.out.2.1.later hbx) (And.intro (below_two HY.out.2.2.1 hbx) (And.intro ((hbx.block _ (lt_blk HY.out.2.2.2.1)).trans HY.out.2.2.2.1) (And.intro (hT ▸ hx) ((hbx.block _ (lt_blk HY.out.2.2.2.2)).trans HY.out.2.2.2.2))))))
  rw [hT]
  clear hX hx hbx hz hT HY
  have x0 := cell_of_blk _ _ _ _ _ HZ.out.2.2.2.1 0
  have x1 := cell_of_blk _ _ _ _ _ HZ.out.2.2.2.1 1
  have t0 := cell_of_blk _ _ _ _ _ HZ.out.2.2.2.2.1 0
  have t1 := cell_of_blk _ _ _ _ _ HZ.out.2.2.2.2.1 1
  have t2 := cell_of_blk _ _ _ _ _ HZ.out.2.2.2.2.1 2
  simp at x0 x1 t0 t1 t2
  have hlo := loops_calls HZ.out.2.1 HF.out.1 HF.out.2.1 HF.out.2.2.1 (by omega) HF.out.2.2.2.2.1 HZ.out.1 HDT.out H19.out
  unfold treeV at hlo
  have HLO := Lib.hid hlo
  clear hlo
  go_wp2_with fail
  clear x0 x1 t0 t1 t2
  refine HLO.out.mono ?_
  rintro e X0 ⟨vl, L, rfl, hlr, hb⟩
  obtain ⟨A0, c0, rfl, hla⟩ := hlr.lr
  have hcap := hlr.cap
  have hln := hla.len
  have HE := Lib.hid (And.intro hla (And.intro hlr.asc (And.intro (HZ.out.1.later hb) (And.intro (below_two HZ.out.2.2.1 hb) (And.intro ((hb.block _ (lt_blk HZ.out.2.2.2.2.1)).trans HZ.out.2.2.2.2.1) ((hb.block _ (lt_blk HZ.out.2.2.2.2.2)).trans HZ.out.2.2.2.2.2))))))
  clear hlr hla hb HLO HZ
  generalize Z.heap.size = bz at HE
  go_wp2_with fail
  refine wp_loopD (LoopI ksN (NHd X0 L.length)) (fun b _ => L.length - (intOf (b.tmps.getD 32 undef)).toNat) (LoopI.start rfl ⟨0, rfl, Nat.zero_le _, Below.refl _ _, Marks.nil _ _⟩) ?_
  rintro fr Wr ⟨u, ds, rfl, ⟨i, hu, hil, hbw, hmk⟩⟩
  simp only [ksN, putL, List.map_cons, List.map_nil, List.foldl_cons, List.foldl_nil, Act.put, List.setIfInBounds_toArray, List.set_cons_zero, List.set_cons_succ]
  rw [hu]
  have HW := Lib.hid (And.intro hbw hmk)
  clear hbw hmk hu
  by_cases hi : i < L.length
  · have pp1 : ((i : Int) < (L.length : Int)) = True := eq_true (by omega)
    have i0 : 0 ≤ (i : Int) := by omega
    have i1 : (i : Int) < (L.length : Int) := by omega
    obtain ⟨⟨xh, xA, xk, xc⟩, hxe⟩ : ∃ e, L[i]? = some e := ⟨_, List.getElem?_eq_getElem hi⟩
    obtain ⟨qL, xs, x, rfl, c0', c1', k⟩ := HE.out.1.at_ i _ hxe
    simp only [LEl.v] at c1' k
    have hk := k.2.1
    subst hk
    replace c0' := (HW.out.1.cell (World.block_lt_of_cell? _ _ c0')).trans c0'
    replace c1' := (HW.out.1.cell (World.block_lt_of_cell? _ _ c1')).trans c1'
    obtain ⟨Ax5, cx5, ex5, hca5, hmx5⟩ := SI.isset_cellsAt k.1
    injection ex5 with e1 e2 e3
    subst e1 e3
    clear e2
    have HXS := Lib.hid (And.intro k.1 hca5)
    go_upto_region 11 with (fail)
    generalize hX : World.alloc Wr _ = X1
    obtain ⟨hx, hbx, hz⟩ := boxed hX rfl
    obtain ⟨P, hP⟩ : ∃ k, Wr.heap.size = k := ⟨_, rfl⟩
    have HX1 := Lib.hid (And.intro trivial (And.intro (below_two HW.out.1 hbx) (And.intro (hP ▸ hx) (HW.out.2.only (Only.of_below hbx) (fun D hD e => by have := HW.out.2.lt hD; omega)))))
    have HXE := Lib.hid (And.intro k.2 hxe)
    rw [hP]
    clear hX hx hbx hz hP k hxe c0' c1' HW hca5
    have x0 := cell_of_blk _ _ _ _ _ HX1.out.2.2.1 0
    have x1 := cell_of_blk _ _ _ _ _ HX1.out.2.2.1 1
    simp at x0 x1
    have hal := SI.all (.slice xA xs.length xc) X1
    have HAL := Lib.hid hal
    clear hal
    go_wp2_with fail
    clear x0 x1
    refine HAL.out.mono ?_
    rintro e W5 ⟨rfl, hW5⟩
    obtain ⟨hx, hbx, hz⟩ := boxed hW5.symm rfl
    obtain ⟨BX, hBX⟩ : ∃ k, X1.heap.size = k := ⟨_, rfl⟩
    have H5 := Lib.hid (show True ∧ Below X0.heap.size X0 W5 ∧ W5.heap[P]? = some (.cells #[.int .i64 (x : Int), .slice xA xs.length xc] 72 (0, 0)) ∧ Marks X0.heap.size ds W5 ∧ W5.heap[BX]? = some (.cells #[.slice xA xs.length xc] 57 (0, 0)) from
      ⟨trivial, below_two HX1.out.2.1 hbx, (hbx.block _ (lt_blk HX1.out.2.2.1)).trans HX1.out.2.2.1, HX1.out.2.2.2.only (Only.of_below hbx) (fun D hD e => by have := HX1.out.2.2.2.lt hD; omega), hBX ▸ hx⟩)
    rw [hBX]
    clear hW5 hx hbx hz hBX HAL HX1
    go_wp2_with fail
    refine (wpIn_wide (n := 6)).1 ?_
    generalize hact : (Act.mk _ _ : Act) = a1
    refine wp_each (BX := BX) (A := xA) (c := xc) (xs := xs) hmx5 (by rw [← hact]; rfl) rfl (fun _ W => Below W5.heap.size W5 W) ?rd1 ?I1 ?s1 (fun y a' => a' = Act.mk ((a1.tmps.setIfInBounds 40 (.int .i64 y)).setIfInBounds 9 (.int .i64 y)) []) ?as1 ?body1 ?done1
    case rd1 => exact fun k W hb => ⟨cellsAt_old HXS.out.2 (Only.of_below (below_two H5.out.2.1 hb)) (fun g o e hg => by have := (isset_lt HXS.out.1 (g := g) (by rw [e]; rfl)).2; omega), (hb.cell (World.block_lt_of_cell? W5 _ (cell_of_blk _ _ _ _ _ H5.out.2.2.2.2 0))).trans (cell_of_blk _ _ _ _ _ H5.out.2.2.2.2 0)⟩
    case I1 => exact fun k A B hb ho => hb.trans (ho.below hb.size (fun k hk e => by omega))
    case s1 => exact fun W ho => (Below.refl _ _).trans (ho.below (Nat.le_refl _) (fun k hk e => e))
    case as1 =>
      intro y W K hK
      subst hact
      gi_wp2
    case body1 =>
      rintro k y a' W' hy rfl hb hlt
      obtain ⟨z, e, hz⟩ := (HXE.out.1.2.2.2.1 y).1 (List.mem_of_getElem? hy)
      subst e
      subst hact
      simp only [List.setIfInBounds_toArray, List.set_cons_zero, List.set_cons_succ]
      have hb0 := below_two H5.out.2.1 hb
      have hov := hz.over HXE.out.1.2.2.2.2.2.ov
      have hzn : z < n := by have := way_lt HF.out.2.1 (by rw [HF.out.1]; exact hn0) hov.2.1; rw [HF.out.1] at this; exact this
      have hTr := (hb0.block _ (lt_blk HE.out.2.2.2.2.1)).trans HE.out.2.2.2.2.1
      have hPr := (hb.block _ (lt_blk H5.out.2.2.1)).trans H5.out.2.2.1
      have t0 := cell_of_blk _ _ _ _ _ hTr 0
      have t1 := cell_of_blk _ _ _ _ _ hTr 1
      have t2 := cell_of_blk _ _ _ _ _ hTr 2
      have p0 := cell_of_blk _ _ _ _ _ hPr 0
      simp at t0 t1 t2 p0
      have hoi := over_in (HE.out.2.2.1.later hb0) HDT.out x z HXE.out.1.2.2.2.2.1 hzn
      have HOI := Lib.hid (And.intro hoi (And.intro hov (And.intro hb hlt)))
      clear hoi hov hz hTr hPr hb0 hb hlt hy
      gi_wp2_with fail
      refine ⟨trivial, (CallsIn.inRound _ (callsIn_wide.2 HOI.out.1)).mono ?_⟩
      rintro e W7 ⟨⟨r, rfl, hr⟩, hb7⟩
      obtain rfl := hr.2 HOI.out.2.1
      have H7 := Lib.hid hb7
      clear hr hb7
      gi_wp2_with fail
      exact ⟨H7.out.block _ (by have := HOI.out.2.2.2; omega), H7.out.block _ HOI.out.2.2.2, below_two HOI.out.2.2.1 H7.out⟩
    case done1 =>
      intro W6 hb hD
      subst hact
      obtain ⟨D, hDe⟩ : ∃ D, W5.heap.size = D := ⟨_, rfl⟩
      have hmk : Marks X0.heap.size (D :: ds) W6 := Marks.cons (H5.out.2.2.2.1.only (Only.of_below hb) (fun D' hD' e => by have := H5.out.2.2.2.1.lt hD'; omega)) (by have := H5.out.2.1.size; omega) (hDe ▸ hD) (fun e => by have := H5.out.2.2.2.1.lt e; omega)
      have H6 := Lib.hid (And.intro (below_two H5.out.2.1 hb) (And.intro hmk ((hb.block _ (lt_blk H5.out.2.2.1)).trans H5.out.2.2.1)))
      have i2 : (i : Int) ≤ (c0 : Int) := by omega
      unfold mark
      rw [hDe]
      clear hb hD hmk hDe H5
      go_wp2_with fail
      refine wp_loopD (LoopI ksM (MHd X0 i P (.cells #[.int .i64 (x : Int), .slice xA xs.length xc] 72 (0, 0)))) (fun b _ => i - (intOf (b.tmps.getD 51 undef)).toNat) (LoopI.start2 (D :: ds) rfl ⟨0, rfl, Nat.zero_le _, H6.out.1, H6.out.2.1, H6.out.2.2⟩) ?_
      rintro fr Wj ⟨u', ds', rfl, ⟨j, hu', hji, hbw, hmk, hP⟩⟩
      simp only [ksM, putL, List.map_cons, List.map_nil, List.foldl_cons, List.foldl_nil, Act.put, List.setIfInBounds_toArray, List.set_cons_zero, List.set_cons_succ]
      rw [hu']
      have HJ := Lib.hid (And.intro hbw (And.intro hmk hP))
      clear hbw hmk hP hu' H6
      by_cases hj : j < i
      · have pp2 : ((j : Int) < (i : Int)) = True := eq_true (by omega)
        have j0 : 0 ≤ (j : Int) := by omega
        have j1 : (j : Int) < (i : Int) := by omega
        obtain ⟨⟨yh, yA, yk, yc⟩, hye⟩ : ∃ e, L[j]? = some e := ⟨_, List.getElem?_eq_getElem (by omega)⟩
        obtain ⟨qL', ys, y, e, c0', c1', k⟩ := HE.out.1.at_ j _ hye
        obtain rfl : qL = qL' := by injection e with e; injection e
        simp only [LEl.v] at c1' k
        have hk := k.2.1
        subst hk
        have hro : RLo ⟨yh, yA, ys.length, yc⟩ ⟨xh, xA, xs.length, xc⟩ := by
          have := List.pairwise_iff_getElem.1 HE.out.2.1 j i (by omega) hi hj
          rw [(List.getElem?_eq_some_iff.1 hye).2, (List.getElem?_eq_some_iff.1 HXE.out.2).2] at this
          exact this
        have hyx : ys.length ≤ xs.length := by unfold RLo at hro; simp only at hro; omega
        have hsub : ∀ z : Int, z ∈ ys → z ∈ xs → ∀ v, v ∈ ys → v ∈ xs := fun z h1 h2 v hv => by
          obtain ⟨z1, e1, k1⟩ := (k.2.2.2.2.1 z).1 h1
          obtain ⟨z2, e2, k2⟩ := (HXE.out.1.2.2.2.1 z).1 h2
          obtain rfl : z1 = z2 := by omega
          rcases LB.nest HDT.out HXE.out.1.2.2.2.2.2 k.2.2.2.2.2.2 k2 k1 with h | h
          · obtain ⟨v1, e3, k3⟩ := (k.2.2.2.2.1 v).1 hv
            exact (HXE.out.1.2.2.2.1 v).2 ⟨v1, e3, h v1 k3⟩
          · exact srt_sub HXS.out.1.srt hyx (fun a ha => by
              obtain ⟨v1, e3, k3⟩ := (HXE.out.1.2.2.2.1 a).1 ha
              exact (k.2.2.2.2.1 a).2 ⟨v1, e3, h v1 k3⟩) v hv
        replace c0' := (HJ.out.1.cell (World.block_lt_of_cell? _ _ c0')).trans c0'
        replace c1' := (HJ.out.1.cell (World.block_lt_of_cell? _ _ c1')).trans c1'
        obtain ⟨Ax5, cx5, ex5, hca5, hmy5⟩ := SI.isset_cellsAt k.1
        injection ex5 with e1 e2 e3
        subst e1 e3
        clear e2 e
        have HYS := Lib.hid (And.intro k.1 (And.intro hca5 hsub))
        clear k hye hro hyx hsub hca5
        go_upto_region 19 with (fail)
        generalize hX : World.alloc (World.alloc Wj _) _ = X2
        obtain ⟨hx, hx1, hz, hbx⟩ := two_bx hX
        obtain ⟨P2, hP2⟩ : ∃ k, Wj.heap.size = k := ⟨_, rfl⟩
        obtain ⟨C, hC⟩ : ∃ k, P2 + 1 = k := ⟨_, rfl⟩
        rw [hP2] at hx hx1 ⊢
        rw [hC] at hx1 ⊢
        have HX2 := Lib.hid (And.intro (below_two HJ.out.1 hbx) (And.intro (HJ.out.2.1.only (Only.of_below hbx) (fun D hD e => by have := HJ.out.2.1.lt hD; omega)) (And.intro ((hbx.block _ (lt_blk HJ.out.2.2)).trans HJ.out.2.2) (And.intro hx (And.intro hx1 (show X0.heap.size ≤ P2 ∧ P < P2 ∧ C = P2 + 1 ∧ ∀ D ∈ ds', D < P2 from ⟨by have := HJ.out.1.size; omega, by have := lt_blk HJ.out.2.2; omega, hC.symm, fun D hD => by have := HJ.out.2.1.lt hD; omega⟩))))))
        clear hX hx hx1 hz hbx hP2 hC c0' c1' HJ
        have x0 := cell_of_blk _ _ _ _ _ HX2.out.2.2.2.1 0
        have x1 := cell_of_blk _ _ _ _ _ HX2.out.2.2.2.1 1
        simp at x0 x1
        have hal := SI.all (.slice yA ys.length yc) X2
        have HAL := Lib.hid hal
        clear hal
        go_wp2_with fail
        clear x0 x1
        refine HAL.out.mono ?_
        rintro e W7 ⟨rfl, hW7⟩
        obtain ⟨hx, hbx, hz⟩ := boxed hW7.symm rfl
        obtain ⟨BY, hBY⟩ : ∃ k, X2.heap.size = k := ⟨_, rfl⟩
        have H7 := Lib.hid (show Below X0.heap.size X0 W7 ∧ Marks X0.heap.size ds' W7 ∧ W7.heap[P]? = some (.cells #[.int .i64 (x : Int), .slice xA xs.length xc] 72 (0, 0)) ∧ W7.heap[P2]? = some (.cells #[.int .i64 (y : Int), .slice yA ys.length yc] 72 (0, 0)) ∧ W7.heap[C]? = some (.cells #[.bool false] 4 (0, 0)) ∧ W7.heap[BY]? = some (.cells #[.slice yA ys.length yc] 57 (0, 0)) ∧ C < BY from
          ⟨below_two HX2.out.1 hbx, HX2.out.2.1.only (Only.of_below hbx) (fun D hD e => by have := HX2.out.2.1.lt hD; omega), (hbx.block _ (lt_blk HX2.out.2.2.1)).trans HX2.out.2.2.1, (hbx.block _ (lt_blk HX2.out.2.2.2.1)).trans HX2.out.2.2.2.1, (hbx.block _ (lt_blk HX2.out.2.2.2.2.1)).trans HX2.out.2.2.2.2.1, hBY ▸ hx, by have := lt_blk HX2.out.2.2.2.2.1; omega⟩)
        have HQ := Lib.hid HX2.out.2.2.2.2.2
        rw [hBY]
        clear hW7 hx hbx hz hBY HAL HX2
        go_wp2_with fail
        refine (wpIn_wide (n := 6)).1 ?_
        generalize hact : (Act.mk _ _ : Act) = a2
        have hXb : ∀ {W : World}, Only (fun g => W7.heap.size ≤ g ∨ g = C) W7 W → Below X0.heap.size X0 W := fun ho => H7.out.1.trans (ho.below H7.out.1.size (fun k hk e => by have := H7.out.1.size; have := HQ.out.1; have := HQ.out.2.2.1; omega))
        refine wp_each (BX := BY) (A := yA) (c := yc) (xs := ys) hmy5 (by rw [← hact]; rfl) rfl (fun k W => Only (fun g => W7.heap.size ≤ g ∨ g = C) W7 W ∧ W.heap[C]? = some (.cells #[.bool ((ys.take k).any (fun z => decide (z ∈ xs)))] 4 (0, 0))) ?rd2 ?I2 ?s2 (fun y a' => a' = Act.mk ((a2.tmps.setIfInBounds 58 (.int .i64 y)).setIfInBounds 13 (.int .i64 y)) []) ?as2 ?body2 ?done2
        case rd2 =>
          rintro k W ⟨ho, -⟩
          have hBYl := lt_blk H7.out.2.2.2.2.2.1
          have hcB := cell_of_blk _ _ _ _ _ H7.out.2.2.2.2.2.1 0
          exact ⟨cellsAt_old HYS.out.2.1 (Only.of_below (hXb ho)) (fun g o e hg => by have := (isset_lt HYS.out.1 (g := g) (by rw [e]; rfl)).2; omega), (ho.cell (p := ⟨BY, 0, none⟩) hBYl (fun e => by have := H7.out.2.2.2.2.2.2; have e : W7.heap.size ≤ BY ∨ BY = C := e; omega)).trans hcB⟩
        case I2 =>
          rintro k A' B' ⟨ho, hc⟩ ho2
          have hCl := lt_blk H7.out.2.2.2.2.1
          exact ⟨ho.trans ho2 (fun g _ e => .inl (by omega)), (ho2.block C (lt_blk hc) (by omega)).trans hc⟩
        case s2 =>
          intro W ho
          exact ⟨ho.mono (fun _ _ e => e.elim), by simpa using (ho.block C (lt_blk H7.out.2.2.2.2.1) id).trans H7.out.2.2.2.2.1⟩
        case as2 =>
          intro y W K hK
          subst hact
          gi_wp2
        case body2 =>
          rintro k z a' W' hz rfl ⟨ho, hc⟩ hlt
          subst hact
          simp only [List.setIfInBounds_toArray, List.set_cons_zero, List.set_cons_succ]
          have hb0 := hXb ho
          have hP1 := (ho.block P (lt_blk H7.out.2.2.1) (fun e => by have := lt_blk H7.out.2.2.1; have := HQ.out.2.1; have := HQ.out.2.2.1; omega)).trans H7.out.2.2.1
          have p1 := cell_of_blk _ _ _ _ _ hP1 1
          have hCl := lt_blk hc
          have hCb : C < W7.heap.size := lt_blk H7.out.2.2.2.2.1
          have cC := cell_of_blk _ _ _ _ _ hc 0
          have hha := hasI bz (.slice xA xs.length xc) xs z W' (HXS.out.1.only (Only.of_below hb0) (fun g hg e => by have := (isset_lt HXS.out.1 hg).2; omega)) (by have := HXE.out.1.2.1; omega)
          have HHA := Lib.hid hha
          have htk : (ys.take (k + 1)).any (fun z => decide (z ∈ xs)) = ((ys.take k).any (fun z => decide (z ∈ xs)) || decide (z ∈ xs)) := by
            rw [List.take_add_one, hz]
            simp [List.any_append]
          have HTK := Lib.hid htk
          have HH := Lib.hid (And.intro ho (And.intro hlt hc))
          simp at p1 cC
          clear hb0 hP1 hha htk ho hc hz
          obtain ⟨cb, hcb⟩ : ∃ cb, (ys.take k).any (fun z => decide (z ∈ xs)) = cb := ⟨_, rfl⟩
          rw [hcb] at HTK HH
          have hcb' : ∀ v, W'.cell? ⟨C, 0, none⟩ = v → v = some (.bool cb) := fun v e => by rw [← e]; have := cell_of_blk _ _ _ _ _ HH.out.2.2 0; simpa using this
          replace cC := hcb' _ rfl
          clear hcb hcb'
          have fC : W'.frozen? ⟨C, 0, none⟩ = false := by have := HH.out.2.2; simp [World.frozen?, this]
          cases cb
          · gi_wp2_with fail
            refine ⟨trivial, (CallsIn.inRound _ (callsIn_wide.2 HHA.out)).mono ?_⟩
            rintro e W9 ⟨rfl, hb9⟩
            have hc9 := (hb9.block C hCl).trans HH.out.2.2
            have fC9 : W9.frozen? ⟨C, 0, none⟩ = false := by simp [World.frozen?, hc9]
            have cC9 := cell_of_blk _ _ _ _ _ hc9 0
            obtain ⟨d, hd⟩ : ∃ d, decide (z ∈ xs) = d := ⟨_, rfl⟩
            rw [hd] at HTK ⊢
            have hos := Only.setCell W9 ⟨C, 0, none⟩ (.bool d)
            have hset : (W9.setCell ⟨C, 0, none⟩ (.bool d)).heap[C]? = some (.cells #[.bool d] 4 (0, 0)) := by simp [World.setCell, Array.getElem?_modify, hc9]
            have H9 := Lib.hid (And.intro hb9 (And.intro hos hset))
            simp at cC9
            clear hb9 hc9 hos hset hd cC
            gi_wp2_with fail
            refine ⟨?_, ?_, ?_, ?_⟩
            · exact (H9.out.2.1.block _ (by have := H9.out.1.size; have := HH.out.2.1; omega) (fun e => by have e : W7.heap.size = C := e; omega)).trans (H9.out.1.block _ (by have := HH.out.2.1; omega))
            · exact (H9.out.2.1.block _ (by have := H9.out.1.size; have := HH.out.2.1; omega) (fun e => by have e : W7.heap.size + 1 = C := e; omega)).trans (H9.out.1.block _ HH.out.2.1)
            · exact (HH.out.1.trans (Only.of_below H9.out.1) (fun g _ e => .inl (by have := HH.out.2.1; omega))).trans H9.out.2.1 (fun g _ e => .inr e)
            · rw [HTK.out, Bool.false_or]; exact H9.out.2.2
          · have hos := Only.setCell W' ⟨C, 0, none⟩ (.bool true)
            have hset : (W'.setCell ⟨C, 0, none⟩ (.bool true)).heap[C]? = some (.cells #[.bool true] 4 (0, 0)) := by have := HH.out.2.2; simp [World.setCell, Array.getElem?_modify, this]
            have H9 := Lib.hid (And.intro hos hset)
            clear hos hset
            gi_wp2_with fail
            refine ⟨trivial, ?_⟩
            gi_wp2_with fail
            refine ⟨?_, ?_, ?_, ?_⟩
            · exact H9.out.1.block _ (by have := HH.out.2.1; omega) (fun e => by have e : W7.heap.size = C := e; omega)
            · exact H9.out.1.block _ HH.out.2.1 (fun e => by have e : W7.heap.size + 1 = C := e; omega)
            · exact HH.out.1.trans H9.out.1 (fun g _ e => .inr e)
            · rw [HTK.out, Bool.true_or]; exact H9.out.2
        case done2 =>
          rintro W8 ⟨ho, hc⟩ hD
          rw [List.take_length] at hc
          subst hact
          obtain ⟨D2, hDe⟩ : ∃ D, W7.heap.size = D := ⟨_, rfl⟩
          have hmk : Marks X0.heap.size (D2 :: ds') W8 := Marks.cons (H7.out.2.1.only ho (fun D' hD' e => by have := H7.out.2.1.lt hD'; have := HQ.out.2.2.2 D' hD'; have := HQ.out.2.2.1; omega)) (by have := H7.out.1.size; omega) (hDe ▸ hD) (fun e => by have := H7.out.2.1.lt e; omega)
          have hP1 := (ho.block P (lt_blk H7.out.2.2.1) (fun e => by have := lt_blk H7.out.2.2.1; have := HQ.out.2.1; have := HQ.out.2.2.1; omega)).trans H7.out.2.2.1
          have hP2 := (ho.block P2 (lt_blk H7.out.2.2.2.1) (fun e => by have := lt_blk H7.out.2.2.2.1; have := HQ.out.2.2.1; omega)).trans H7.out.2.2.2.1
          have H8 := Lib.hid (And.intro (hXb ho) (And.intro hmk (And.intro hP1 hP2)))
          have cC := cell_of_blk _ _ _ _ _ hc 0
          obtain ⟨cb, hcb⟩ : ∃ cb, ys.any (fun z => decide (z ∈ xs)) = cb := ⟨_, rfl⟩
          rw [hcb] at cC
          have HCB := Lib.hid hcb
          simp at cC
          unfold mark
          rw [hDe]
          clear ho hc hD hmk hP1 hP2 hcb hDe H7 hXb
          cases cb
          · go_wp2_with fail
            refine ⟨LoopI.mk (ds := D2 :: ds') (by kernel_rfl) ⟨j + 1, by go_num, by omega, H8.out.1, H8.out.2.1, H8.out.2.2.1⟩, ?_⟩
            simp [intOf]
            omega
          · have hall : ∀ v, v ∈ ys → v ∈ xs := by
              obtain ⟨z, h1, h2⟩ := List.any_eq_true.1 HCB.out
              exact HYS.out.2.2 z h1 (by simpa using h2)
            have HALL := Lib.hid hall
            have x0 := cell_of_blk _ _ _ _ _ H8.out.2.2.2 0
            have x1 := cell_of_blk _ _ _ _ _ H8.out.2.2.2 1
            simp at x0 x1
            have hal := SI.all (.slice yA ys.length yc) W8
            have HAL := Lib.hid hal
            clear hal hall
            go_wp2_with fail
            clear x0 x1
            refine HAL.out.mono ?_
            rintro e W9 ⟨rfl, hW9⟩
            obtain ⟨hx, hbx, hz⟩ := boxed hW9.symm rfl
            obtain ⟨BZ, hBZ⟩ : ∃ k, W8.heap.size = k := ⟨_, rfl⟩
            have H9 := Lib.hid (And.intro (below_two H8.out.1 hbx) (And.intro (H8.out.2.1.only (Only.of_below hbx) (fun D hD e => by have := H8.out.2.1.lt hD; omega)) (And.intro ((hbx.block _ (lt_blk H8.out.2.2.1)).trans H8.out.2.2.1) (hBZ ▸ hx))))
            rw [hBZ]
            clear hW9 hx hbx hz hBZ HAL H8
            go_wp2_with fail
            refine (wpIn_wide (n := 6)).1 ?_
            generalize hact : (Act.mk _ _ : Act) = a3
            refine wp_each (BX := BZ) (A := yA) (c := yc) (xs := ys) hmy5 (by rw [← hact]; rfl) rfl (fun _ W => Below W9.heap.size W9 W) ?rd3 ?I3 ?s3 (fun y a' => a' = Act.mk ((a3.tmps.setIfInBounds 71 (.int .i64 y)).setIfInBounds 14 (.int .i64 y)) []) ?as3 ?body3 ?done3
            case rd3 => exact fun k W hb => ⟨cellsAt_old HYS.out.2.1 (Only.of_below (below_two H9.out.1 hb)) (fun g o e hg => by have := (isset_lt HYS.out.1 (g := g) (by rw [e]; rfl)).2; omega), (hb.cell (World.block_lt_of_cell? W9 _ (cell_of_blk _ _ _ _ _ H9.out.2.2.2 0))).trans (cell_of_blk _ _ _ _ _ H9.out.2.2.2 0)⟩
            case I3 => exact fun k A B hb ho => hb.trans (ho.below hb.size (fun k hk e => by omega))
            case s3 => exact fun W ho => (Below.refl _ _).trans (ho.below (Nat.le_refl _) (fun k hk e => e))
            case as3 =>
              intro y W K hK
              subst hact
              gi_wp2
            case body3 =>
              rintro k z a' W' hz rfl hb hlt
              subst hact
              simp only [List.setIfInBounds_toArray, List.set_cons_zero, List.set_cons_succ]
              have hb0 := below_two H9.out.1 hb
              have hP1 := (hb.block _ (lt_blk H9.out.2.2.1)).trans H9.out.2.2.1
              have p1 := cell_of_blk _ _ _ _ _ hP1 1
              have hha := hasI bz (.slice xA xs.length xc) xs z W' (HXS.out.1.only (Only.of_below hb0) (fun g hg e => by have := (isset_lt HXS.out.1 hg).2; omega)) (by have := HXE.out.1.2.1; omega)
              rw [decide_eq_true (HALL.out z (List.mem_of_getElem? hz))] at hha
              have HHA := Lib.hid hha
              have HH := Lib.hid (And.intro hb hlt)
              simp at p1
              clear hb0 hP1 hha hb hlt hz
              gi_wp2_with fail
              refine ⟨trivial, (CallsIn.inRound _ (callsIn_wide.2 HHA.out)).mono ?_⟩
              rintro e W10 ⟨rfl, hb10⟩
              have H10 := Lib.hid hb10
              clear hb10
              gi_wp2_with fail
              exact ⟨H10.out.block _ (by have := HH.out.2; omega), H10.out.block _ HH.out.2, below_two HH.out.1 H10.out⟩
            case done3 =>
              intro W10 hb hD
              subst hact
              obtain ⟨D3, hDe⟩ : ∃ D, W9.heap.size = D := ⟨_, rfl⟩
              have hmk : Marks X0.heap.size (D3 :: D2 :: ds') W10 := Marks.cons (H9.out.2.1.only (Only.of_below hb) (fun D' hD' e => by have := H9.out.2.1.lt hD'; omega)) (by have := H9.out.1.size; omega) (hDe ▸ hD) (fun e => by have := H9.out.2.1.lt e; omega)
              have H11 := Lib.hid (And.intro (below_two H9.out.1 hb) (And.intro hmk ((hb.block _ (lt_blk H9.out.2.2.1)).trans H9.out.2.2.1)))
              unfold mark
              rw [hDe]
              clear hb hD hmk hDe H9
              go_wp2_with fail
              refine ⟨LoopI.mk (ds := D3 :: D2 :: ds') (by kernel_rfl) ⟨j + 1, by go_num, by omega, H11.out.1, H11.out.2.1, H11.out.2.2⟩, ?_⟩
              simp [intOf]
              omega
      · obtain rfl : j = i := by omega
        have pp2 : ((j : Int) < (j : Int)) = False := eq_false (by omega)
        go_wp2_with fail
        refine ⟨LoopI.mk (ds := ds') (by kernel_rfl) ⟨j + 1, by go_num, by omega, HJ.out.1, HJ.out.2.1⟩, ?_⟩
        simp [intOf]
        omega
  · obtain rfl : i = L.length := by omega
    have pp1 : ((L.length : Int) < (L.length : Int)) = False := eq_false (by omega)
    have hRr := (HW.out.1.block _ (lt_blk HE.out.2.2.2.2.2)).trans HE.out.2.2.2.2.2
    have hc2 : Wr.cell? ⟨R, 0, none⟩ = some (.bool false) := cell_of_blk _ _ _ _ _ hRr 0
    have hf2 : Wr.frozen? ⟨R, 0, none⟩ = false := by simp [World.frozen?, hRr]
    have hv2 : (Wr.setCell ⟨R, 0, none⟩ (.bool true)).cell? ⟨R, 0, none⟩ = some (.bool true) := by simp [World.setCell, World.cell?, Array.getElem?_modify, hRr]
    have hRX : R < X0.heap.size := lt_blk HE.out.2.2.2.2.2
    have hos := Only.setCell Wr ⟨R, 0, none⟩ (.bool true)
    have hmk := HW.out.2.only hos (fun D hD e => by have := (HW.out.2.at_ D hD).1; have e : D = R := e; omega)
    have HV := Lib.hid (And.intro hv2 (And.intro hmk (And.intro (show Below W.heap.size W (Wr.setCell ⟨R, 0, none⟩ (.bool true)) from (below_two HE.out.2.2.2.1 HW.out.1).setCell (by show W.heap.size ≤ R; exact HR.out) (.bool true)) hRX)))
    clear hRr hv2 hRX hos hmk
    go_wp2_with fail
    refine Marks.leave (by simp) (lo := X0.heap.size) ds _ HV.out.2.1 (fun w' ho => ?_)
    have hq : w'.cell? ⟨R, 0, none⟩ = some (.bool true) := (ho.cell (p := ⟨R, 0, none⟩) (World.block_lt_of_cell? _ _ HV.out.1) (fun e => by have h1 : X0.heap.size ≤ R := (HV.out.2.1.at_ _ e).1; have h2 := HV.out.2.2.2; omega)).trans HV.out.1
    refine ⟨.bool true, by simp [results, Try.results14, go_sem, hq], rfl, ?_⟩
    exact HV.out.2.2.1.trans (ho.below HV.out.2.2.1.size (fun k hk e => by have := (HV.out.2.1.at_ k e).1; have := HE.out.2.2.2.1.size; omega))
theorem lne_calls (N : Nat) (A : Option Addr) (c : Nat) (es : List (Nat × Nat)) (W : World) (hN : N ≤ 255) (hA : Edges W A es) (hc : es.length ≤ c) :
    Calls Try.prog 14 #[.agg #[.int .u8 N, .slice A es.length c]] W fun e W' => e = .returned (.bool true) ∧ Below W.heap.size W W' := by
  by_cases hl : es.length ≤ 40
  · exact lne_near N A c es W hN hA hc hl
  · exact lne_far N A c es W hl
end Go.Proofs.Ytnkbbjeepdjamaa
