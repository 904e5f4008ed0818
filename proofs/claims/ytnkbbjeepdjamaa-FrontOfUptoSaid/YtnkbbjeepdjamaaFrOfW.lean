/- refinerylaw09.FrontOf: the walk. Conditions: the numbers are of their kinds. -/
import Derived.Test.YtnkbbjeepdjamaaFrAw
import Derived.Test.YtnkbbjeepdjamaaFrRef
import Derived.Test.YtnkbbjeepdjamaaDOvW
namespace Go.Proofs.Ytnkbbjeepdjamaa
open Go.RowKit
/-- What a test reads. -/
def FWr (Q i g o qa j : Nat) (vi : Value) (n : Nat) (rb : Bool) (xi : List Int) (X0 X : World) : Prop :=
  X.cell? ⟨Q, i, none⟩ = some vi ∧ X.cell? ⟨g, o, none⟩ = some (.slice (some ⟨qa, 0, none⟩) n n) ∧ X.cell? ⟨qa, j, none⟩ = some (.bool rb) ∧ Hid (IsSetI X Q vi xi ∧ Below X0.heap.size X0 X)
theorem FWr.later {Q i g o qa j : Nat} {vi : Value} {n : Nat} {rb : Bool} {xi : List Int} {X0 X X' : World} (h : FWr Q i g o qa j vi n rb xi X0 X) (hb : Below X.heap.size X X') : FWr Q i g o qa j vi n rb xi X0 X' := by
  obtain ⟨h1, h2, h3, h4⟩ := h
  have k : ∀ {p : Addr} {v : Value}, X.cell? p = some v → X'.cell? p = some v := fun hc => (hb.cell (World.block_lt_of_cell? X _ hc)).trans hc
  exact ⟨k h1, k h2, k h3, Lib.hid ⟨h4.out.1.only (Only.of_below hb) (fun g hg e => by have := (isset_lt h4.out.1 hg).2; omega), below_two h4.out.2 hb⟩⟩
set_option maxHeartbeats 2000000 in
theorem fof_far (N : Nat) (A : Option Addr) (c : Nat) (es : List (Nat × Nat)) (W : World) (hl : ¬ es.length ≤ 40) :
    Calls Try.prog 8 #[.agg #[.int .u8 N, .slice A es.length c]] W fun e W' => e = .returned (.bool true) ∧ Below W.heap.size W W' := by
  go_enter Try.func8, Try.ntmps8
  go_wp2_with fail
  generalize hX : World.alloc W _ = X
  obtain ⟨hx, hbx, hz⟩ := boxed hX rfl
  have HX := Lib.hid (And.intro hx (And.intro hbx hz))
  clear hX hx hbx hz
  refine (awake9 X).mono ?_
  rintro e W1 ⟨rfl, hb⟩
  have H1 := Lib.hid (And.intro ((hb.block _ (lt_blk HX.out.1)).trans HX.out.1) (below_two HX.out.2.1 hb))
  clear hb HX
  have x0 := cell_of_blk _ _ _ _ _ H1.out.1 0
  have x1 := cell_of_blk _ _ _ _ _ H1.out.1 1
  simp at x0 x1
  go_wp2_with fail
  clear x0 x1
  refine (light_calls7 N A es.length c W1).mono ?_
  rintro e W2 ⟨rfl, hb⟩
  have hbel := below_two H1.out.2 hb
  rw [decide_eq_false hl]
  clear hb H1
  go_wp2_with fail
  go_ret
  exact ⟨rfl, hbel⟩
set_option maxRecDepth 100000 in
set_option maxHeartbeats 8000000 in
theorem fof_near (N : Nat) (A : Option Addr) (c : Nat) (es : List (Nat × Nat)) (W : World) (hN : N ≤ 255) (hA : Edges W A es) (hc : es.length ≤ c) (hl : es.length ≤ 40) :
    Calls Try.prog 8 #[.agg #[.int .u8 N, .slice A es.length c]] W fun e W' => e = .returned (.bool true) ∧ Below W.heap.size W W' := by
  have HA := Lib.hid (And.intro hA hc)
  clear hA hc
  obtain ⟨n, hn⟩ : ∃ n, 1 + N % 12 = n := ⟨_, rfl⟩
  have hn0 : 0 < n := by omega
  have hn12 : n ≤ 12 := by omega
  have HN := Lib.hid hn
  clear hn
  go_enter Try.func8, Try.ntmps8
  go_wp2_with fail
  generalize hX : World.alloc W _ = X
  obtain ⟨hx, hbx, hz⟩ := boxed hX rfl
  have HX := Lib.hid (And.intro hx (And.intro hbx hz))
  clear hX hx hbx hz
  refine (awake9 X).mono ?_
  rintro e W1 ⟨rfl, hb⟩
  have H1 := Lib.hid (And.intro ((hb.block _ (lt_blk HX.out.1)).trans HX.out.1) (below_two HX.out.2.1 hb))
  clear hb HX
  have x0 := cell_of_blk _ _ _ _ _ H1.out.1 0
  have x1 := cell_of_blk _ _ _ _ _ H1.out.1 1
  simp at x0 x1
  go_wp2_with fail
  clear x0 x1
  refine (light_calls7 N A es.length c W1).mono ?_
  rintro e W2 ⟨rfl, hb⟩
  have H2 := Lib.hid (And.intro ((hb.block _ (lt_blk H1.out.1)).trans H1.out.1) (below_two H1.out.2 hb))
  rw [decide_eq_true hl]
  clear hb H1
  have x0 := cell_of_blk _ _ _ _ _ H2.out.1 0
  have x1 := cell_of_blk _ _ _ _ _ H2.out.1 1
  simp at x0 x1
  go_wp2_with fail
  clear x0 x1
  have hsc := small_calls N hN A c es W2 (HA.out.1.later H2.out.2) HA.out.2 (by omega)
  rw [HN.out] at hsc
  have HSC := Lib.hid hsc
  clear hsc
  refine HSC.out.mono ?_
  rintro e W3 ⟨gv, q, vs, S, rfl, hg, hm, hap, hb3⟩
  have hrw := graph_rows n hn0 es
  have htw := graph_twin n hn0 es
  generalize graphB n es = b at *
  generalize graphA n es = a at *
  obtain ⟨q1, p1, rfl⟩ := hg.form
  rw [hrw.lb] at hg ⊢
  have HG := Lib.hid (And.intro (hg.lower H2.out.2.size) (And.intro (hm.lower H2.out.2.size) (And.intro (below_two H2.out.2 hb3) (And.intro hrw htw))))
  clear hg hm hap hb3 hrw htw HSC H2
  go_wp2_with fail
  generalize hX : World.alloc W3 _ = X
  obtain ⟨hx, hbx, hz⟩ := boxed hX rfl
  have hlb := HG.out.2.2.2.1.lb
  have hfew : Few b := HG.out.2.2.2.1.fewOf (by omega)
  have hbl : ∀ (i : Nat) (l : List Nat), b[i]? = some l → l.length ≤ 1048575 := fun i l hi => by have := (HG.out.2.2.2.1.few i l hi).1; omega
  have hal : ∀ (i : Nat) (l : List Nat), a[i]? = some l → l.length ≤ 1048575 := fun i l hi => by have := (HG.out.2.2.2.1.fewA i l hi).1; omega
  obtain ⟨B, hB⟩ : ∃ k, W3.heap.size = k := ⟨_, rfl⟩
  have hS : GSr B q1 p1 n W.heap.size b a S W X := by
    rw [← hB]
    exact ⟨cell_of_blk _ _ _ _ _ hx 0, cell_of_blk _ _ _ _ _ hx 1, Lib.hid ⟨HG.out.1.later hbx, below_two HG.out.2.2.1 hbx⟩⟩
  have hSd := hS.later (X' := X.drew) ((Below.refl X.heap.size X).drew)
  have HF := Lib.hid (And.intro hlb (And.intro hfew (And.intro HG.out.2.2.2.2 (And.intro hbl (And.intro hal (And.intro (HG.out.2.1.later hbx) (And.intro (below_two HG.out.2.2.1 hbx).size (show n ≤ 1048575 by omega))))))))
  rw [hB]
  clear hX hx hbx hz hlb hfew hbl hal HG hB
  go_region_held3 (fun Y => Y.cell? ⟨B, 0, none⟩ = some (.slice (some ⟨q1, 0, none⟩) n n) ∧ Y.cell? ⟨B, 1, none⟩ = some (.slice (some ⟨p1, 0, none⟩) n n) ∧ Hid (Gr Y W.heap.size (.agg #[.slice (some ⟨q1, 0, none⟩) n n, .slice (some ⟨p1, 0, none⟩) n n]) b a S ∧ Below W.heap.size W Y))
    (first | exact hSd | exact (hSd.later hb1).later hb2 | exact hSd.later hb1)
    (first
      | (go_at_call 19; refine (of_calls hn0 HF.out.2.2.2.2.2.2.2 _ hSd.2.2.out.1 HF.out.1 HF.out.2.1 HF.out.2.2.1 HF.out.2.2.2.1 HF.out.2.2.2.2.1 HF.out.2.2.2.2.2.2.1).mono ?_; rintro e w1 ⟨qu, qb, qd, ts, up, deep, rfl, htr, hdt, hb1⟩)
      | (go_at_call 32; refine (front_calls (hSd.later hb1).2.2.out.1 HF.out.1 HF.out.2.1 HF.out.2.2.1 HF.out.2.2.2.2.2.2.2 HF.out.2.2.2.2.1 htr hdt).mono ?_; rintro e w2 ⟨Q, S', rfl, hbg, hb2⟩))
  rename_i hh
  have HE := Lib.hid (And.intro hbg (And.intro ((HF.out.2.2.2.2.2.1.later (Below.refl X.heap.size X).drew).later (below_two hb1 hb2)) hh.2.2.out.2))
  clear hh hbg hb1 hb2 htr hdt hS hSd
  have hfr := frontR_calls HE.out.2.1 HF.out.2.1 HF.out.1 HF.out.2.2.2.1 (fun i _ => wayO_neg)
  have HFR := Lib.hid hfr
  clear hfr
  go_wp2_with fail
  refine HFR.out.mono ?_
  rintro e V ⟨A2, c2, qs, rfl, htb, hb⟩
  have HV := Lib.hid (And.intro (HE.out.1.later hb) (And.intro htb (below_two HE.out.2.2 hb)))
  clear htb hb HE HFR
  obtain ⟨g0, o0, rfl⟩ : ∃ g o, A2 = some ⟨g, o, none⟩ := by
    rcases HV.out.2.1.row with ⟨h1, h2⟩ | ⟨g, o, cap, cur, h1, _⟩
    · have h3 : qs = [] := by simpa using h2
      have h4 := HV.out.2.1.len
      rw [h3] at h4
      simp at h4
      omega
    · injection h1 with h1; exact ⟨g, o, h1⟩
  have qq : ((n : Int) != (n : Int)) = false := by simp
  go_wp2_with fail
  clear qq
  go_loopw [32] (fun v wr => ∃ i : Nat, v = .int .i64 (i : Int) ∧ Hid (i ≤ n ∧ Below V.heap.size V wr)) (fun v _ => n - (intOf v).toNat)
  case atStart => exact ⟨0, rfl, Lib.hid ⟨Nat.zero_le _, Below.refl _ _⟩⟩
  case round =>
    obtain ⟨wo, rfl⟩ : ∃ x : World, x = wr := ⟨_, rfl⟩
    obtain ⟨i, rfl, HI⟩ := hrel
    by_cases hi : i < n
    · have pp1 : ((i : Int) < (n : Int)) = True := eq_true (by omega)
      have i0 : 0 ≤ (i : Int) := by omega
      have i1 : (i : Int) < (n : Int) := by omega
      go_wp2_with fail
      go_loopw [37] (fun v wr => ∃ j : Nat, v = .int .i64 (j : Int) ∧ Hid (j ≤ n ∧ Below V.heap.size V wr)) (fun v _ => n - (intOf v).toNat)
      case atStart => exact ⟨0, rfl, Lib.hid ⟨Nat.zero_le _, HI.out.2⟩⟩
      case round =>
        obtain ⟨wq, rfl⟩ : ∃ x : World, x = wr := ⟨_, rfl⟩
        obtain ⟨j, rfl, HJ⟩ := hrel
        by_cases hj : j < n
        · have pp2 : ((j : Int) < (n : Int)) = True := eq_true (by omega)
          have j0 : 0 ≤ (j : Int) := by omega
          have j1 : (j : Int) < (n : Int) := by omega
          obtain ⟨vi, xi, cQ, hsi, hli, _, hxi⟩ := (HV.out.1.later HJ.out.2).get hi
          obtain ⟨qa, rb, ca, cb, hrb⟩ := (HV.out.2.1.later HJ.out.2).at2 hi hj
          have hS : FWr Q i g0 (o0 + i) qa j vi n rb xi V wq := ⟨cQ, ca, cb, Lib.hid ⟨hsi, HJ.out.2⟩⟩
          have hSd := hS.later (X' := wq.drew) ((Below.refl wq.heap.size wq).drew)
          have HX := Lib.hid (show rb = decide ((j : Int) ∈ xi) from by
            cases rb
            · symm
              refine decide_eq_false (fun h => ?_)
              obtain ⟨y, e, hy⟩ := (hxi (j : Int)).1 h
              obtain rfl : j = y := by omega
              have := hrb.2 hy; cases this
            · symm
              exact decide_eq_true ((hxi (j : Int)).2 ⟨j, rfl, hrb.1 rfl⟩))
          have hli2 : xi.length ≤ 1048576 := by omega
          clear cQ ca cb hrb hxi hsi hS
          go_wp2_with fail
          go_region_held3 (fun Y => Y.cell? ⟨Q, i, none⟩ = some vi ∧ Y.cell? ⟨g0, o0 + i, none⟩ = some (.slice (some ⟨qa, 0, none⟩) n n) ∧ Y.cell? ⟨qa, j, none⟩ = some (.bool rb) ∧ Hid (IsSetI Y Q vi xi ∧ Below V.heap.size V Y))
            (first | exact hSd | exact hSd.later hb1)
            (first | (go_at_call 34; refine (hasI Q vi xi (j : Int) _ hSd.2.2.2.out.1 hli2).mono ?_; rintro e w1 ⟨rfl, hb1⟩))
          have hb2 := below_two HJ.out.2 (below_two ((Below.refl wq.heap.size wq).drew) hb1)
          have HB2 := Lib.hid hb2
          rename_i hh
          clear hb1 hb2 hSd hh
          rw [← HX.out]
          cases rb
          all_goals
            go_wp2_with fail
            go_roundw
            case rel => exact ⟨j + 1, by go_num, Lib.hid ⟨by omega, HB2.out⟩⟩
            case measure => simp [intOf]; omega
        · obtain rfl : j = n := by have := HJ.out.1; omega
          have pp2 : ((j : Int) < (j : Int)) = False := eq_false (by omega)
          go_wp2_with fail
          go_roundw
          case rel => exact ⟨i + 1, by go_num, Lib.hid ⟨by omega, HJ.out.2⟩⟩
          case measure => simp [intOf]; omega
    · obtain rfl : i = n := by have := HI.out.1; omega
      have pp1 : ((i : Int) < (i : Int)) = False := eq_false (by omega)
      have hbl := below_two HV.out.2.2 HI.out.2
      have HBL := Lib.hid hbl
      clear hbl
      go_wp2_with fail
      go_ret
      exact ⟨rfl, HBL.out⟩
theorem fof_calls (N : Nat) (A : Option Addr) (c : Nat) (es : List (Nat × Nat)) (W : World) (hN : N ≤ 255) (hA : Edges W A es) (hc : es.length ≤ c) :
    Calls Try.prog 8 #[.agg #[.int .u8 N, .slice A es.length c]] W fun e W' => e = .returned (.bool true) ∧ Below W.heap.size W W' := by
  by_cases hl : es.length ≤ 40
  · exact fof_near N A c es W hN hA hc hl
  · exact fof_far N A c es W hl
end Go.Proofs.Ytnkbbjeepdjamaa
