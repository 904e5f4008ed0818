/- refinerylaw08.DomOver: the walk. Conditions: the numbers are of their kinds. -/
import Derived.Test.YtnkbbjeepdjamaaDAwake
import Derived.Test.YtnkbbjeepdjamaaDTab
namespace Go.Proofs.Ytnkbbjeepdjamaa
open Go.RowKit
theorem wayO_neg {g : Nat → List Nat} {i : Nat} : WayO g (-1) i ↔ Way g 0 i := by
  constructor
  · intro h
    induction h with
    | zero _ => exact .refl 0
    | step _ hc _ ih => exact ih.step hc
  · intro h
    induction h with
    | refl => exact .zero (by decide)
    | step _ hc ih => exact ih.step hc (by omega)
/-- What a test reads. -/
def OSr (T qu qb qd n g o qa bb : Nat) (rb : Bool) (base : Nat) (vs : List Value) (up deep : List Int) (bl : List (List Nat)) (X0 X : World) : Prop :=
  X.cell? ⟨T, 0, none⟩ = some (.slice (some ⟨qu, 0, none⟩) n n) ∧ X.cell? ⟨T, 1, none⟩ = some (.slice (some ⟨qb, 0, none⟩) n n) ∧ X.cell? ⟨T, 2, none⟩ = some (.slice (some ⟨qd, 0, none⟩) n n) ∧ X.cell? ⟨g, o, none⟩ = some (.slice (some ⟨qa, 0, none⟩) n n) ∧ X.cell? ⟨qa, bb, none⟩ = some (.bool rb) ∧ Hid (TR X base n qu qb qd vs up deep bl ∧ Below X0.heap.size X0 X)
theorem OSr.later {T qu qb qd n g o qa bb : Nat} {rb : Bool} {base : Nat} {vs : List Value} {up deep : List Int} {bl : List (List Nat)} {X0 X X' : World} (h : OSr T qu qb qd n g o qa bb rb base vs up deep bl X0 X) (hb : Below X.heap.size X X') : OSr T qu qb qd n g o qa bb rb base vs up deep bl X0 X' := by
  obtain ⟨h1, h2, h3, h4, h5, h6⟩ := h
  have k : ∀ {p : Addr} {v : Value}, X.cell? p = some v → X'.cell? p = some v := fun hc => (hb.cell (World.block_lt_of_cell? X _ hc)).trans hc
  exact ⟨k h1, k h2, k h3, k h4, k h5, Lib.hid ⟨h6.out.1.later hb, below_two h6.out.2 hb⟩⟩
set_option maxHeartbeats 2000000 in
theorem over8_far (N : Nat) (A : Option Addr) (c : Nat) (es : List (Nat × Nat)) (W : World) (hl : ¬ es.length ≤ 40) :
    Calls Try.prog 3 #[.agg #[.int .u8 N, .slice A es.length c]] W fun e W' => e = .returned (.bool true) ∧ Below W.heap.size W W' := by
  go_enter Try.func3, Try.ntmps3
  go_wp2_with fail
  generalize hX : World.alloc W _ = X
  obtain ⟨hx, hbx, hz⟩ := boxed hX rfl
  have HX := Lib.hid (And.intro hx (And.intro hbx hz))
  clear hX hx hbx hz
  refine (awake8 X).mono ?_
  rintro e W1 ⟨rfl, hb⟩
  have H1 := Lib.hid (And.intro ((hb.block _ (lt_blk HX.out.1)).trans HX.out.1) (below_two HX.out.2.1 hb))
  clear hb HX
  have x0 := cell_of_blk _ _ _ _ _ H1.out.1 0
  have x1 := cell_of_blk _ _ _ _ _ H1.out.1 1
  simp at x0 x1
  go_wp2_with fail
  clear x0 x1
  refine (light_calls7 N A es.length c W1).mono ?_
  rintro e W2 ⟨rfl, hb⟩
  have hbel := below_two H1.out.2 hb
  rw [decide_eq_false hl]
  clear hb H1
  go_wp2_with fail
  go_ret
  exact ⟨rfl, hbel⟩
set_option maxRecDepth 100000 in
set_option maxHeartbeats 8000000 in
theorem over8_near (N : Nat) (A : Option Addr) (c : Nat) (es : List (Nat × Nat)) (W : World) (hN : N ≤ 255) (hA : Edges W A es) (hc : es.length ≤ c) (hl : es.length ≤ 40) :
    Calls Try.prog 3 #[.agg #[.int .u8 N, .slice A es.length c]] W fun e W' => e = .returned (.bool true) ∧ Below W.heap.size W W' := by
  have HA := Lib.hid (And.intro hA hc)
  clear hA hc
  obtain ⟨n, hn⟩ : ∃ n, 1 + N % 12 = n := ⟨_, rfl⟩
  have hn0 : 0 < n := by omega
  have hn12 : n ≤ 12 := by omega
  have HN := Lib.hid hn
  clear hn
  go_enter Try.func3, Try.ntmps3
  go_wp2_with fail
  generalize hX : World.alloc W _ = X
  obtain ⟨hx, hbx, hz⟩ := boxed hX rfl
  have HX := Lib.hid (And.intro hx (And.intro hbx hz))
  clear hX hx hbx hz
  refine (awake8 X).mono ?_
  rintro e W1 ⟨rfl, hb⟩
  have H1 := Lib.hid (And.intro ((hb.block _ (lt_blk HX.out.1)).trans HX.out.1) (below_two HX.out.2.1 hb))
  clear hb HX
  have x0 := cell_of_blk _ _ _ _ _ H1.out.1 0
  have x1 := cell_of_blk _ _ _ _ _ H1.out.1 1
  simp at x0 x1
  go_wp2_with fail
  clear x0 x1
  refine (light_calls7 N A es.length c W1).mono ?_
  rintro e W2 ⟨rfl, hb⟩
  have H2 := Lib.hid (And.intro ((hb.block _ (lt_blk H1.out.1)).trans H1.out.1) (below_two H1.out.2 hb))
  rw [decide_eq_true hl]
  clear hb H1
  have x0 := cell_of_blk _ _ _ _ _ H2.out.1 0
  have x1 := cell_of_blk _ _ _ _ _ H2.out.1 1
  simp at x0 x1
  go_wp2_with fail
  clear x0 x1
  have hsc := small_calls N hN A c es W2 (HA.out.1.later H2.out.2) HA.out.2 (by omega)
  rw [HN.out] at hsc
  have HSC := Lib.hid hsc
  clear hsc
  refine HSC.out.mono ?_
  rintro e W3 ⟨gv, q, vs, S, rfl, hg, hm, hap, hb3⟩
  have hrw := graph_rows n hn0 es
  have htw := graph_twin n hn0 es
  generalize graphB n es = b at *
  generalize graphA n es = a at *
  obtain ⟨q1, p1, rfl⟩ := hg.form
  rw [hrw.lb] at hg ⊢
  have HG := Lib.hid (And.intro (hg.lower H2.out.2.size) (And.intro (hm.lower H2.out.2.size) (And.intro (below_two H2.out.2 hb3) (And.intro hrw htw))))
  clear hg hm hap hb3 hrw htw HSC H2
  go_wp2_with fail
  generalize hX : World.alloc W3 _ = X
  obtain ⟨hx, hbx, hz⟩ := boxed hX rfl
  have hlb := HG.out.2.2.2.1.lb
  have hfew : Few b := HG.out.2.2.2.1.fewOf (by omega)
  have hbl : ∀ (i : Nat) (l : List Nat), b[i]? = some l → l.length ≤ 1048575 := fun i l hi => by have := (HG.out.2.2.2.1.few i l hi).1; omega
  have hal : ∀ (i : Nat) (l : List Nat), a[i]? = some l → l.length ≤ 1048575 := fun i l hi => by have := (HG.out.2.2.2.1.fewA i l hi).1; omega
  have hof := of_calls hn0 (by omega) X (HG.out.1.later hbx) hlb hfew HG.out.2.2.2.2 hbl hal (below_two HG.out.2.2.1 hbx).size
  have HOF := Lib.hid hof
  have HF := Lib.hid (And.intro hlb (And.intro hfew hbl))
  have HX := Lib.hid (And.intro (HG.out.2.1.later hbx) (below_two HG.out.2.2.1 hbx))
  clear hX hx hbx hz hlb hfew hbl hal hof HG
  refine HOF.out.mono ?_
  rintro e Y ⟨qu, qb, qd, ts, up, deep, rfl, htr, hdt, hb⟩
  unfold treeV
  have HY := Lib.hid (And.intro htr (And.intro hdt (And.intro (below_two HX.out.2 hb) (HX.out.1.later hb))))
  clear htr hdt hb HOF HX
  go_wp2_with fail
  generalize hZ : World.alloc Y _ = Z
  obtain ⟨hz, hbz, hzz⟩ := boxed hZ rfl
  obtain ⟨T, hT⟩ : ∃ k, Y.heap.size = k := ⟨_, rfl⟩
  have htab := table_calls (HY.out.2.2.2.later hbz) HF.out.2.1 HF.out.1 HF.out.2.2 (fun i _ => wayO_neg)
  have HTAB := Lib.hid htab
  have HZ := Lib.hid (And.intro (HY.out.1.later hbz) (And.intro (below_two HY.out.2.2.1 hbz) (hT ▸ hz)))
  have HDT := Lib.hid HY.out.2.1
  rw [hT]
  clear hZ hz hbz hzz hT htab HY
  refine HTAB.out.mono ?_
  rintro e V ⟨A2, c2, qs, rfl, htb, hb⟩
  have HV := Lib.hid (And.intro (HZ.out.1.later hb) (And.intro (below_two HZ.out.2.1 hb) (And.intro ((hb.block _ (lt_blk HZ.out.2.2)).trans HZ.out.2.2) htb)))
  clear htb hb HZ HTAB
  go_wp2_with fail
  go_loopw [25] (fun v wr => ∃ i : Nat, v = .int .i64 (i : Int) ∧ Hid (i ≤ n ∧ Below V.heap.size V wr)) (fun v _ => n - (intOf v).toNat)
  case atStart => exact ⟨0, rfl, Lib.hid ⟨Nat.zero_le _, Below.refl _ _⟩⟩
  case round =>
    obtain ⟨wo, rfl⟩ : ∃ x : World, x = wr := ⟨_, rfl⟩
    obtain ⟨i, rfl, HI⟩ := hrel
    by_cases hi : i < n
    · have pp1 : ((i : Int) < (n : Int)) = True := eq_true (by omega)
      have i0 : 0 ≤ (i : Int) := by omega
      have i1 : (i : Int) < (n : Int) := by omega
      go_wp2_with fail
      go_loopw [30] (fun v wr => ∃ j : Nat, v = .int .i64 (j : Int) ∧ Hid (j ≤ n ∧ Below V.heap.size V wr)) (fun v _ => n - (intOf v).toNat)
      case atStart => exact ⟨0, rfl, Lib.hid ⟨Nat.zero_le _, HI.out.2⟩⟩
      case round =>
        obtain ⟨wq, rfl⟩ : ∃ x : World, x = wr := ⟨_, rfl⟩
        obtain ⟨j, rfl, HJ⟩ := hrel
        by_cases hj : j < n
        · have pp2 : ((j : Int) < (n : Int)) = True := eq_true (by omega)
          have j0 : 0 ≤ (j : Int) := by omega
          have j1 : (j : Int) < (n : Int) := by omega
          obtain ⟨qa, hqa⟩ : ∃ x, qs[i]? = some x := ⟨_, List.getElem?_eq_getElem (by rw [HV.out.2.2.2.len]; exact hi)⟩
          obtain ⟨_, row, hrow, hrl, hrv⟩ := (HV.out.2.2.2.later HJ.out.2).at_ i qa hqa
          have hrr := (HV.out.2.2.2.later HJ.out.2).row
          obtain ⟨g0, o0, rfl⟩ : ∃ g o, A2 = some ⟨g, o, none⟩ := by
            rcases hrr with ⟨h1, h2⟩ | ⟨g, o, cap, cur, h1, _⟩
            · have : qs = [] := by simpa using h2
              rw [this] at hqa; simp at hqa
            · injection h1 with h1; exact ⟨g, o, h1⟩
          have hTr := (HJ.out.2.block _ (lt_blk HV.out.2.2.1)).trans HV.out.2.2.1
          have hS : OSr T qu qb qd n g0 (o0 + i) qa j (tr row j) X.heap.size ts up deep (belows up n n) V wq :=
            ⟨cell_of_blk _ _ _ _ _ hTr 0, cell_of_blk _ _ _ _ _ hTr 1, cell_of_blk _ _ _ _ _ hTr 2, hrr.cell i (rowV n qa) (by rw [List.getElem?_map, hqa]; rfl), seen_tr hrow hrl hj, Lib.hid ⟨HV.out.1.later HJ.out.2, HJ.out.2⟩⟩
          have hiff := hrv j hj
          obtain ⟨rb, hrb⟩ : ∃ rb, tr row j = rb := ⟨_, rfl⟩
          rw [hrb] at hS hiff
          have HIF := Lib.hid hiff
          have hSd := hS.later (X' := wq.drew) ((Below.refl wq.heap.size wq).drew)
          clear hqa hrow hrl hrv hrr hTr hiff hrb
          go_wp2_with fail
          go_region_held3 (fun Y => Y.cell? ⟨T, 0, none⟩ = some (.slice (some ⟨qu, 0, none⟩) n n) ∧ Y.cell? ⟨T, 1, none⟩ = some (.slice (some ⟨qb, 0, none⟩) n n) ∧ Y.cell? ⟨T, 2, none⟩ = some (.slice (some ⟨qd, 0, none⟩) n n) ∧ Y.cell? ⟨g0, o0 + i, none⟩ = some (.slice (some ⟨qa, 0, none⟩) n n) ∧ Y.cell? ⟨qa, j, none⟩ = some (.bool rb) ∧ Hid (TR Y X.heap.size n qu qb qd ts up deep (belows up n n) ∧ Below V.heap.size V Y))
            (first | exact hSd | (refine OSr.later hSd ?_; assumption))
            (first | (go_at_call 21; refine (over_in hSd.2.2.2.2.2.out.1 HDT.out i j hi hj).mono ?_; rintro e w1 ⟨⟨r, rfl, hr⟩, hb1⟩))
          obtain rfl : r = rb := by
            have h2 := HIF.out
            cases r <;> cases rb <;> simp_all
          have hb2 := below_two HJ.out.2 (below_two ((Below.refl wq.heap.size wq).drew) hb1)
          have HB2 := Lib.hid hb2
          rename_i hh
          clear hb1 hb2 hS hSd hr hh
          cases r
          all_goals
            go_wp2_with fail
            go_roundw
            case rel => exact ⟨j + 1, by go_num, Lib.hid ⟨by omega, HB2.out⟩⟩
            case measure => simp [intOf]; omega
        · obtain rfl : j = n := by have := HJ.out.1; omega
          have pp2 : ((j : Int) < (j : Int)) = False := eq_false (by omega)
          go_wp2_with fail
          go_roundw
          case rel => exact ⟨i + 1, by go_num, Lib.hid ⟨by omega, HJ.out.2⟩⟩
          case measure => simp [intOf]; omega
    · obtain rfl : i = n := by have := HI.out.1; omega
      have pp1 : ((i : Int) < (i : Int)) = False := eq_false (by omega)
      have hTr := (HI.out.2.block _ (lt_blk HV.out.2.2.1)).trans HV.out.2.2.1
      have x0 := cell_of_blk _ _ _ _ _ hTr 0
      have x1 := cell_of_blk _ _ _ _ _ hTr 1
      have x2 := cell_of_blk _ _ _ _ _ hTr 2
      simp at x0 x1 x2
      have Q0 := Lib.hid (And.intro (below_two HV.out.2.1 HI.out.2) hTr)
      clear hTr
      go_wp2_with fail
      clear x0 x1 x2
      refine (over_out (n := i) (-1) 0 (.inl (by decide))).mono ?_
      rintro e Z1 ⟨rfl, hb⟩
      have Q1 := Lib.hid (And.intro (below_two Q0.out.1 hb) ((hb.block _ (lt_blk Q0.out.2)).trans Q0.out.2))
      have x0 := cell_of_blk _ _ _ _ _ Q1.out.2 0
      have x1 := cell_of_blk _ _ _ _ _ Q1.out.2 1
      have x2 := cell_of_blk _ _ _ _ _ Q1.out.2 2
      simp at x0 x1 x2
      clear hb Q0
      go_wp2_with fail
      clear x0 x1 x2
      refine (over_out (n := i) 0 (i : Int) (.inr (.inr (.inr (Int.le_refl _))))).mono ?_
      rintro e Z2 ⟨rfl, hb⟩
      have Q2 := Lib.hid (And.intro (below_two Q1.out.1 hb) ((hb.block _ (lt_blk Q1.out.2)).trans Q1.out.2))
      have x0 := cell_of_blk _ _ _ _ _ Q2.out.2 0
      have x1 := cell_of_blk _ _ _ _ _ Q2.out.2 1
      have x2 := cell_of_blk _ _ _ _ _ Q2.out.2 2
      simp at x0 x1 x2
      clear hb Q1
      go_wp2_with fail
      clear x0 x1 x2
      refine (over_out (n := i) (i : Int) (i : Int) (.inr (.inr (.inl (Int.le_refl _))))).mono ?_
      rintro e Z3 ⟨rfl, hb⟩
      have hbl := below_two Q2.out.1 hb
      clear hb
      go_wp2_with fail
      go_ret
      exact ⟨rfl, hbl⟩
theorem over8_calls (N : Nat) (A : Option Addr) (c : Nat) (es : List (Nat × Nat)) (W : World) (hN : N ≤ 255) (hA : Edges W A es) (hc : es.length ≤ c) :
    Calls Try.prog 3 #[.agg #[.int .u8 N, .slice A es.length c]] W fun e W' => e = .returned (.bool true) ∧ Below W.heap.size W W' := by
  by_cases hl : es.length ≤ 40
  · exact over8_near N A c es W hN hA hc hl
  · exact over8_far N A c es W hl
end Go.Proofs.Ytnkbbjeepdjamaa
