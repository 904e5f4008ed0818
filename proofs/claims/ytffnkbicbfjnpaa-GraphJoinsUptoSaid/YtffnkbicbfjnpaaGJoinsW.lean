/- refinerylaw07.GraphJoins: the walk. Conditions: the numbers are of their kinds. -/
import Derived.Test.YtffnkbicbfjnpaaGLaw
import Derived.StillTailTactics
namespace Go.Proofs.Ytffnkbicbfjnpaa
open Go.RowKit
set_option linter.unusedSimpArgs false in
set_option maxRecDepth 100000 in
set_option maxHeartbeats 8000000 in
theorem joins_calls (N : Nat) (hN : N ≤ 255) (A : Option Addr) (c : Nat) (es : List (Nat × Nat)) (x y : Int) (W : World) (hA : Edges W A es) (hc : es.length ≤ c) :
    Calls Try.prog 11 #[.agg #[.int .u8 N, .slice A es.length c], .int .i64 x, .int .i64 y] W fun e W' => e = .returned (.bool true) ∧ Below W.heap.size W W' := by
  have HA := Lib.hid (And.intro hA (And.intro hc hN))
  clear hA hc hN
  go_enter Try.func11, Try.ntmps11
  go_wp2_with fail
  generalize hX : World.alloc W _ = X
  obtain ⟨hx, hbx, hz⟩ := boxed hX rfl
  have HX := Lib.hid (And.intro hx (And.intro hbx hz))
  clear hX hx hbx hz
  refine (gawake_calls X).mono ?_
  rintro e W1 ⟨rfl, hb⟩
  have H1 := Lib.hid (And.intro ((hb.block _ (lt_blk HX.out.1)).trans HX.out.1) (below_two HX.out.2.1 hb))
  clear hb HX
  have x0 := cell_of_blk _ _ _ _ _ H1.out.1 0
  have x1 := cell_of_blk _ _ _ _ _ H1.out.1 1
  simp at x0 x1
  go_wp2_with fail
  clear x0 x1
  refine (light_calls7 N A es.length c W1).mono ?_
  rintro e W2 ⟨rfl, hb⟩
  have H2 := Lib.hid (And.intro ((hb.block _ (lt_blk H1.out.1)).trans H1.out.1) (below_two H1.out.2 hb))
  clear hb H1
  by_cases hl : es.length ≤ 40
  · rw [decide_eq_true hl]
    have x0 := cell_of_blk _ _ _ _ _ H2.out.1 0
    have x1 := cell_of_blk _ _ _ _ _ H2.out.1 1
    simp at x0 x1
    go_wp2_with fail
    clear x0 x1
    refine (small_calls N HA.out.2.2 A c es W2 (HA.out.1.later H2.out.2) HA.out.2.1 (by omega)).mono ?_
    rintro e W3 ⟨gv, q, vs, S, rfl, hg, hm, hap, hb3⟩
    obtain ⟨n, hn⟩ : ∃ n, 1 + N % 12 = n := ⟨_, rfl⟩
    have hn0 : 0 < n := by omega
    have hn12 : n ≤ 12 := by omega
    rw [hn] at hg hm ⊢
    have htw := graph_twin n hn0 es
    have hrw := graph_rows n hn0 es
    generalize graphB n es = b at *
    generalize graphA n es = a at *
    obtain ⟨q1, p1, rfl⟩ := hg.form
    rw [hrw.lb] at hg ⊢
    have HG := Lib.hid (And.intro (hg.lower H2.out.2.size) (And.intro (hm.lower H2.out.2.size) (And.intro (H2.out.2.trans (hb3.mono H2.out.2.size)) (And.intro htw (And.intro hrw hap)))))
    clear hg hm hap hb3 htw hrw H2 hn HA
    go_wp2_with fail
    generalize hX : World.alloc W3 _ = X3
    obtain ⟨hx, hbx, hz⟩ := boxed hX rfl
    obtain ⟨B, hB⟩ : ∃ B, W3.heap.size = B := ⟨_, rfl⟩
    rw [hB] at hx ⊢
    have hgl : GL W W.heap.size n b a B q1 p1 q vs S X3 := ⟨HG.out.1.later hbx, HG.out.2.1.later hbx, cell_of_blk _ _ _ _ _ hx 0, cell_of_blk _ _ _ _ _ hx 1, below_two HG.out.2.2.1 hbx⟩
    have HP := Lib.hid HG.out.2.2.2
    have HGL := Lib.hid hgl
    have hf := HP.out.2.1.fewOf (by omega)
    clear hgl hX hx hbx hz hB HG
    have hlb := HP.out.2.1.lb
    have HF := Lib.hid (And.intro hf hlb)
    have href := ref_calls HGL.out.mat hf (fun i l hl => by have := (HP.out.2.1.few i l hl).1; omega) (-1)
    rw [hlb] at href
    have HREF := Lib.hid href
    clear hf hlb href
    refine HREF.out.mono ?_
    rintro e W4 ⟨q4, s4, rfl, hs4, hl4, hi4, hq4, hb4⟩
    rw [HF.out.2] at hl4 hi4 ⊢
    have HG4 := Lib.hid (And.intro (HGL.out.later hb4) (And.intro hs4 (seen_eq hn0 HF.out.2 HF.out.1 hl4 hi4)))
    have HL4 := Lib.hid hl4
    clear hs4 hi4 hq4 hb4 hl4 HGL HREF
    have d0 := HG4.out.1.c0
    have d1 := HG4.out.1.c1
    go_wp2_with fail
    refine (len_calls q1 n p1 n n n W4).mono ?_
    rintro e W5 ⟨rfl, hb⟩
    have HG5 := Lib.hid (And.intro (HG4.out.1.later hb) (And.intro (HG4.out.2.1.only (Only.of_below hb) (by have := lt_blk HG4.out.2.1; omega)) HG4.out.2.2))
    clear hb d0 d1 HG4
    have d0 := HG5.out.1.c0
    have d1 := HG5.out.1.c1
    go_wp2_with fail
    have hre := reached_calls HG5.out.1.gr HF.out.1
    rw [HF.out.2] at hre
    refine hre.mono ?_
    rintro e W6 ⟨q6, rfl, hs6, hq6, hb6⟩
    have HG6 := Lib.hid (And.intro (HG5.out.1.later hb6) (And.intro (HG5.out.2.1.only (Only.of_below hb6) (by have := lt_blk HG5.out.2.1; omega)) (And.intro HG5.out.2.2 hs6)))
    clear hre hs6 hq6 hb6 d0 d1 HG5
    go_wp2_with fail
    refine (equalB HG6.out.2.2.2 HG6.out.2.1 (by rw [HG6.out.2.2.1]; exact HL4.out) HL4.out (by omega)).mono ?_
    rintro e W7 ⟨rfl, hb⟩
    rw [decide_eq_true HG6.out.2.2.1]
    have HG7 := Lib.hid (HG6.out.1.later hb)
    clear hb HG6
    go_wp2_with fail
    go_loopw [42] (fun v wr => ∃ i : Nat, v = .int .i64 (i : Int) ∧ Hid (i ≤ n ∧ GL W W.heap.size n b a B q1 p1 q vs S wr)) (fun v _ => n - (intOf v).toNat)
    case atStart => exact ⟨0, rfl, Lib.hid ⟨Nat.zero_le _, HG7.out⟩⟩
    case round =>
      obtain ⟨i, rfl, HI⟩ := hrel
      clear HG7 HL4
      by_cases hi : i < n
      · have pp1 : ((i : Int) < (n : Int)) = True := eq_true (by omega)
        have i0 : 0 ≤ (i : Int) := by omega
        have i1 : (i : Int) < (n : Int) := by omega
        obtain ⟨Y, rfl⟩ : ∃ Y : World, Y = wr := ⟨_, rfl⟩
        go_wp2_with fail
        clear pp1
        go_loopw [46, 12] (fun v u wi => ∃ k : Nat, v = .int .i64 (k : Int) ∧ Hid (k ≤ n ∧ Below Y.heap.size Y wi ∧ RowAt wi Y.heap.size 3 u ((aheadOf b k i).map iv))) (fun v _ _ => n - (intOf v).toNat)
        case atStart => exact ⟨0, rfl, Lib.hid ⟨Nat.zero_le _, Below.refl _ _, RowAt.nil _ _ _⟩⟩
        case round =>
          obtain ⟨k, rfl, HK⟩ := hrel
          by_cases hk : k < n
          · have pp1 : ((k : Int) < (n : Int)) = True := eq_true (by omega)
            have k0 : 0 ≤ (k : Int) := by omega
            have k1 : (k : Int) < (n : Int) := by omega
            have hgl := HI.out.2.later HK.out.2.1
            obtain ⟨rv, l, hrv, hl2, hr⟩ := hgl.mat.get (i := k) (by rw [HF.out.2]; exact hk)
            obtain ⟨A1, m1, c1, rfl⟩ : ∃ A m c, rv = .slice A m c := (rowAt_slice hr).elim fun A h => h.elim fun c h => ⟨A, _, c, h.1⟩
            have hc := hgl.mat.cell k
            rw [hrv] at hc
            have hbk : b.getD k [] = l := by rw [List.getD_eq_getElem?_getD, hl2]; rfl
            have HL := Lib.hid (And.intro hr hbk)
            clear hgl hrv hl2 hr hbk
            go_wp2_with fail
            refine (QI.contains (i : Int) (l := ivs l) (by rw [ivs_map]; exact HL.out.1)).mono ?_
            rintro e w4 ⟨rfl, rfl⟩
            by_cases hmem : i ∈ b.getD k []
            · have hdec : decide ((i : Int) ∈ ivs l) = true := decide_eq_true ((ivs_mem _ _).2 (by rw [← HL.out.2]; exact hmem))
              rw [hdec]
              have HM := Lib.hid hmem
              obtain ⟨A2, m2, c2, rfl⟩ : ∃ A m c, u12 = .slice A m c := (rowAt_slice HK.out.2.2).elim fun A h => h.elim fun c h => ⟨A, _, c, h.1⟩
              obtain ⟨v', w5, hr, j1, j2, j3⟩ := row_append (w := wr.alloc (.cells #[.int .i64 (k : Int)] 3)) (base := Y.heap.size) (v := .slice A2 m2 c2) (l := aheadOf b k i) (HK.out.2.2.only (Only.alloc (fun _ => False) _ _) (fun _ _ e => e)) ⟨wr.heap.size, 0, none⟩ k (by
                have := cell_of_blk (wr.alloc (.cells #[.int .i64 (k : Int)] 3)) wr.heap.size _ _ _ (heap_alloc_new' wr _) 0
                exact this) (by have := HK.out.2.1.size; simp; omega) (by have := aheadOf_len b k i; omega)
              have hb5 : Below Y.heap.size Y w5 := HK.out.2.1.trans (((Only.alloc (fun g => (Value.slice A2 m2 c2).ownBlock = some g) _ _).trans j2 (fun _ _ e => e)).below HK.out.2.1.size (fun g hg e => by have := (HK.out.2.2.lt e).2; omega))
              have HRN := Lib.hid hr
              have HJ := Lib.hid (And.intro hb5 j1)
              clear hdec hmem hr j1 j2 j3 hb5
              go_wp2_with (first | (at_builtin; refine Lib.wpList_append_run _ rfl _ _ _ _ rfl _ _ rfl rfl _ _ HRN.out ?_) | fail)
              go_roundw
              case rel => exact ⟨k + 1, by go_num, Lib.hid ⟨by omega, HJ.out.1, by rw [aheadOf_snoc, if_pos HM.out]; exact HJ.out.2⟩⟩
              case measure => simp [intOf]; omega
            · have hdec : decide ((i : Int) ∈ ivs l) = false := decide_eq_false (fun h => hmem (by rw [HL.out.2]; exact (ivs_mem _ _).1 h))
              rw [hdec]
              have HM := Lib.hid hmem
              clear hdec hmem
              go_wp2_with fail
              go_roundw
              case rel => exact ⟨k + 1, by go_num, Lib.hid ⟨by omega, HK.out.2.1, by rw [aheadOf_snoc, if_neg HM.out]; exact HK.out.2.2⟩⟩
              case measure => simp [intOf]; omega
          · obtain rfl : k = n := by have := HK.out.1; omega
            have pp1 : ((k : Int) < (k : Int)) = False := eq_false (by omega)
            obtain ⟨A2, m2, c2, rfl⟩ : ∃ A m c, u12 = .slice A m c := (rowAt_slice HK.out.2.2).elim fun A h => h.elim fun c h => ⟨A, _, c, h.1⟩
            have hgl := HI.out.2.later HK.out.2.1
            obtain ⟨rv, l, hrv, hl2, hr⟩ := hgl.mat.get (i := i) (by rw [HF.out.2]; exact hi)
            obtain ⟨A1, c1, rfl, _, _, _⟩ := rowAt_slice hr
            rw [List.length_map] at hr hrv
            have hal : a[i]? = some (aheadOf b k i) := by
              rw [getD_some (by rw [HP.out.1.la]; exact hi), aheadOf_eq HP.out.1]
            have hln : l.length ≤ 1048576 ∧ (aheadOf b k i).length ≤ 1048576 := ⟨by have := (HP.out.2.1.few i l hl2).1; omega, by have := aheadOf_len b k i; omega⟩
            have hS : GLR W W.heap.size k b a B q1 p1 q vs S Y.heap.size (.slice A2 m2 c2) (aheadOf b k i) (wr.drewN 1) := (⟨hgl, HK.out.2.2⟩ : GLR W W.heap.size k b a B q1 p1 q vs S Y.heap.size (.slice A2 m2 c2) (aheadOf b k i) wr).later (below_drewN' wr 1)
            have HR := Lib.hid (And.intro hrv (And.intro hl2 (And.intro hln.1 (And.intro hal hln.2))))
            clear hgl hrv hl2 hr hal hln
            go_wp2_with fail
            clear pp1
            refine wp_region_held_drew (S := (GLR W W.heap.size k b a B q1 p1 q vs S Y.heap.size (.slice A2 m2 c2) (aheadOf b k i))) (by kernel_rfl) (by (first | exact hS | exact hk1 | exact hk2 | exact hk3 | exact hk4)) (fun hHeld => ?_)
            refine wpAnyH_take (i := 0) (oi := { dst := some 60, op := Go.Op.load 80 (Go.Operand.tmp 7), type := 80, pos := "law.go:67", after := #[], guard := none }) (v := ?_) rfl (by kernel_rfl) (by kernel_rfl) (by kernel_rfl) (fun _ _ _ h => h) (Or.inl ⟨by rfl, ?_⟩) (by assumption) ?_
            rotate_left 1
            · intro w hSw; (have d0 := hSw.gl.c0; have d1 := hSw.gl.c1; have d2 := hSw.gl.mat.cell i; rw [HR.out.1] at d2; clear hSw); go_simp; try with_reducible rfl
            try simp only [Act.put, List.setIfInBounds_toArray, List.set_cons_zero, List.set_cons_succ]
            refine wpAnyH_take (i := 1) (oi := { dst := some 61, op := Go.Op.move (Go.Operand.tmp 11), type := 3, pos := "law.go:67", after := #[], guard := none }) (v := ?_) rfl (by kernel_rfl) (by kernel_rfl) (by kernel_rfl) (fun _ _ _ h => h) (Or.inl ⟨by rfl, ?_⟩) (by assumption) ?_
            rotate_left 1
            · intro w hSw; (have d0 := hSw.gl.c0; have d1 := hSw.gl.c1; have d2 := hSw.gl.mat.cell i; rw [HR.out.1] at d2; clear hSw); go_simp; try with_reducible rfl
            try simp only [Act.put, List.setIfInBounds_toArray, List.set_cons_zero, List.set_cons_succ]
            refine wpAnyH_take (i := 3) (oi := { dst := some 63, op := Go.Op.move (Go.Operand.tmp 8), type := 78, pos := "law.go:67", after := #[], guard := none }) (v := ?_) rfl (by kernel_rfl) (by kernel_rfl) (by kernel_rfl) (fun _ _ _ h => h) (Or.inl ⟨by rfl, ?_⟩) (by assumption) ?_
            rotate_left 1
            · intro w hSw; (have d0 := hSw.gl.c0; have d1 := hSw.gl.c1; have d2 := hSw.gl.mat.cell i; rw [HR.out.1] at d2; clear hSw); go_simp; try with_reducible rfl
            try simp only [Act.put, List.setIfInBounds_toArray, List.set_cons_zero, List.set_cons_succ]
            refine wpAnyH_take (i := 4) (oi := { dst := some 64, op := Go.Op.move (Go.Operand.tmp 11), type := 3, pos := "law.go:67", after := #[], guard := none }) (v := ?_) rfl (by kernel_rfl) (by kernel_rfl) (by kernel_rfl) (fun _ _ _ h => h) (Or.inl ⟨by rfl, ?_⟩) (by assumption) ?_
            rotate_left 1
            · intro w hSw; (have d0 := hSw.gl.c0; have d1 := hSw.gl.c1; have d2 := hSw.gl.mat.cell i; rw [HR.out.1] at d2; clear hSw); go_simp; try with_reducible rfl
            try simp only [Act.put, List.setIfInBounds_toArray, List.set_cons_zero, List.set_cons_succ]
            refine wpAnyH_take (i := 5) (oi := { dst := some 65, op := Go.Op.indexAddr 78 (Go.Operand.tmp 63) (Go.Operand.tmp 64), type := 0, pos := "law.go:67", after := #[{ on := 3, ground := Go.Ground.data }, { on := 4, ground := Go.Ground.data }], guard := none }) (v := ?_) rfl (by kernel_rfl) (by kernel_rfl) (by kernel_rfl) (fun _ _ _ h => h) (Or.inl ⟨by rfl, ?_⟩) (by assumption) ?_
            rotate_left 1
            · intro w hSw; (have d0 := hSw.gl.c0; have d1 := hSw.gl.c1; have d2 := hSw.gl.mat.cell i; rw [HR.out.1] at d2; clear hSw); go_simp; try with_reducible rfl
            try simp only [Act.put, List.setIfInBounds_toArray, List.set_cons_zero, List.set_cons_succ]
            refine wpAnyH_take (i := 6) (oi := { dst := some 66, op := Go.Op.load 40 (Go.Operand.tmp 65), type := 40, pos := "law.go:67", after := #[{ on := 5, ground := Go.Ground.data }], guard := none }) (v := ?_) rfl (by kernel_rfl) (by kernel_rfl) (by kernel_rfl) (fun _ _ _ h => h) (Or.inl ⟨by rfl, ?_⟩) (by assumption) ?_
            rotate_left 1
            · intro w hSw; (have d0 := hSw.gl.c0; have d1 := hSw.gl.c1; have d2 := hSw.gl.mat.cell i; rw [HR.out.1] at d2; clear hSw); go_simp; try with_reducible rfl
            try simp only [Act.put, List.setIfInBounds_toArray, List.set_cons_zero, List.set_cons_succ]
            refine wpAnyH_ready (rs := [2]) (by kernel_rfl) (by simp) ?_
            refine AllReadyH.cons (o := { dst := some 62, op := Go.Op.call { callee := Go.Callee.value (Go.Operand.func 49), args := #[Go.Operand.tmp 60, Go.Operand.tmp 61], argTypes := #[80, 3] }, type := 40, pos := "law.go:67", after := #[{ on := 0, ground := Go.Ground.data }, { on := 1, ground := Go.Ground.data }], guard := none }) rfl (fun K hK => ?_) AllReadyH.nil
            go_simp
            have hg0 := hHeld
            refine (behind_in hg0.gl.gr i _ HR.out.2.1 HR.out.2.2.1).mono ?_
            rintro e x1 ⟨v1, rfl, ho1, hb1⟩
            obtain ⟨A3, c3, rfl, _, _, _⟩ := rowAt_slice (RowAt.of_own ho1)
            have hr1 := RowAt.of_own ho1
            have hk1 := hg0.later hb1
            simp only [List.length_map] at hr1 ⊢
            go_wp2_with fail
            refine hK.out _ _ ?_ (fun hHeld1 => ?_)
            · (try dsimp only); (first | exact hS | exact hk1 | exact hk2 | exact hk3 | exact hk4)
            clear hK K hHeld
            try simp only [Act.put, List.setIfInBounds_toArray, List.set_cons_zero, List.set_cons_succ]
            refine wpAnyH_ready (rs := [7]) (by kernel_rfl) (by simp) ?_
            refine AllReadyH.cons (o := { dst := some 67, op := Go.Op.call { callee := Go.Callee.value (Go.Operand.func 45), args := #[Go.Operand.tmp 62, Go.Operand.tmp 66], argTypes := #[40, 40] }, type := 4, pos := "law.go:67", after := #[{ on := 2, ground := Go.Ground.data }, { on := 6, ground := Go.Ground.data }, { on := 2, ground := Go.Ground.chain }], guard := none }) rfl (fun K hK => ?_) AllReadyH.nil
            go_simp
            refine (equalG hr1 (hk1.gl.mat.row i _ _ HR.out.1 HR.out.2.1)).mono ?_
            rintro e x2 ⟨rfl, hb2⟩
            rw [decide_eq_true rfl]
            have hk2 := hk1.later hb2
            go_wp2_with fail
            refine hK.out _ _ ?_ (fun hHeld2 => ?_)
            · (try dsimp only); (first | exact hS | exact hk1 | exact hk2 | exact hk3 | exact hk4)
            clear hK K hHeld1
            try simp only [Act.put, List.setIfInBounds_toArray, List.set_cons_zero, List.set_cons_succ]
            refine wpAnyH_take (i := 8) (oi := { dst := some 68, op := Go.Op.unOp Go.UnOp.not 4 (Go.Operand.tmp 67), type := 4, pos := "law.go:67", after := #[{ on := 7, ground := Go.Ground.data }], guard := none }) (v := ?_) rfl (by kernel_rfl) (by kernel_rfl) (by kernel_rfl) (fun _ _ _ h => h) (Or.inl ⟨by rfl, ?_⟩) (by assumption) ?_
            rotate_left 1
            · intro w hSw; (have d0 := hSw.gl.c0; have d1 := hSw.gl.c1; have d2 := hSw.gl.mat.cell i; rw [HR.out.1] at d2; clear hSw); go_simp; try with_reducible rfl
            try simp only [Act.put, List.setIfInBounds_toArray, List.set_cons_zero, List.set_cons_succ]
            refine wpAnyH_take (i := 9) (oi := { dst := some 69, op := Go.Op.move (Go.Operand.tmp 68), type := 4, pos := "law.go:67", after := #[{ on := 8, ground := Go.Ground.data }, { on := 7, ground := Go.Ground.chain }], guard := none }) (v := ?_) rfl (by kernel_rfl) (by kernel_rfl) (by kernel_rfl) (fun _ _ _ h => h) (Or.inl ⟨by rfl, ?_⟩) (by assumption) ?_
            rotate_left 1
            · intro w hSw; (have d0 := hSw.gl.c0; have d1 := hSw.gl.c1; have d2 := hSw.gl.mat.cell i; rw [HR.out.1] at d2; clear hSw); go_simp; try with_reducible rfl
            try simp only [Act.put, List.setIfInBounds_toArray, List.set_cons_zero, List.set_cons_succ]
            refine wpAnyH_take (i := 10) (oi := { dst := some 70, op := Go.Op.load 80 (Go.Operand.tmp 7), type := 80, pos := "law.go:67", after := #[{ on := 9, ground := Go.Ground.guard }], guard := some (9, false) }) (v := ?_) rfl (by kernel_rfl) (by kernel_rfl) (by kernel_rfl) (fun _ _ _ h => h) (Or.inl ⟨by rfl, ?_⟩) (by assumption) ?_
            rotate_left 1
            · intro w hSw; (have d0 := hSw.gl.c0; have d1 := hSw.gl.c1; have d2 := hSw.gl.mat.cell i; rw [HR.out.1] at d2; clear hSw); go_simp; try with_reducible rfl
            try simp only [Act.put, List.setIfInBounds_toArray, List.set_cons_zero, List.set_cons_succ]
            refine wpAnyH_take (i := 11) (oi := { dst := some 71, op := Go.Op.move (Go.Operand.tmp 11), type := 3, pos := "law.go:67", after := #[{ on := 9, ground := Go.Ground.guard }], guard := some (9, false) }) (v := ?_) rfl (by kernel_rfl) (by kernel_rfl) (by kernel_rfl) (fun _ _ _ h => h) (Or.inl ⟨by rfl, ?_⟩) (by assumption) ?_
            rotate_left 1
            · intro w hSw; (have d0 := hSw.gl.c0; have d1 := hSw.gl.c1; have d2 := hSw.gl.mat.cell i; rw [HR.out.1] at d2; clear hSw); go_simp; try with_reducible rfl
            try simp only [Act.put, List.setIfInBounds_toArray, List.set_cons_zero, List.set_cons_succ]
            refine wpAnyH_take (i := 13) (oi := { dst := some 73, op := Go.Op.move (Go.Operand.tmp 12), type := 40, pos := "law.go:67", after := #[{ on := 9, ground := Go.Ground.guard }], guard := some (9, false) }) (v := ?_) rfl (by kernel_rfl) (by kernel_rfl) (by kernel_rfl) (fun _ _ _ h => h) (Or.inl ⟨by rfl, ?_⟩) (by assumption) ?_
            rotate_left 1
            · intro w hSw; (have d0 := hSw.gl.c0; have d1 := hSw.gl.c1; have d2 := hSw.gl.mat.cell i; rw [HR.out.1] at d2; clear hSw); go_simp; try with_reducible rfl
            try simp only [Act.put, List.setIfInBounds_toArray, List.set_cons_zero, List.set_cons_succ]
            refine wpAnyH_ready (rs := [12]) (by kernel_rfl) (by simp) ?_
            refine AllReadyH.cons (o := { dst := some 72, op := Go.Op.call { callee := Go.Callee.value (Go.Operand.func 50), args := #[Go.Operand.tmp 70, Go.Operand.tmp 71], argTypes := #[80, 3] }, type := 40, pos := "law.go:67", after := #[{ on := 10, ground := Go.Ground.data }, { on := 11, ground := Go.Ground.data }, { on := 9, ground := Go.Ground.chain }, { on := 9, ground := Go.Ground.guard }], guard := some (9, false) }) rfl (fun K hK => ?_) AllReadyH.nil
            go_simp
            refine (ahead_in hk2.gl.gr i _ HR.out.2.2.2.1 HR.out.2.2.2.2).mono ?_
            rintro e x3 ⟨v3, rfl, ho3, hb3⟩
            obtain ⟨A4, c4, rfl, _, _, _⟩ := rowAt_slice (RowAt.of_own ho3)
            have hr3 := RowAt.of_own ho3
            have hk3 := hk2.later hb3
            simp only [List.length_map] at hr3 ⊢
            go_wp2_with fail
            refine hK.out _ _ ?_ (fun hHeld3 => ?_)
            · (try dsimp only); (first | exact hS | exact hk1 | exact hk2 | exact hk3 | exact hk4)
            clear hK K hHeld2
            try simp only [Act.put, List.setIfInBounds_toArray, List.set_cons_zero, List.set_cons_succ]
            refine wpAnyH_ready (rs := [14]) (by kernel_rfl) (by simp) ?_
            refine AllReadyH.cons (o := { dst := some 74, op := Go.Op.call { callee := Go.Callee.value (Go.Operand.func 45), args := #[Go.Operand.tmp 72, Go.Operand.tmp 73], argTypes := #[40, 40] }, type := 4, pos := "law.go:67", after := #[{ on := 12, ground := Go.Ground.data }, { on := 13, ground := Go.Ground.data }, { on := 12, ground := Go.Ground.chain }, { on := 9, ground := Go.Ground.guard }], guard := some (9, false) }) rfl (fun K hK => ?_) AllReadyH.nil
            go_simp
            refine (equalG hr3 hk3.row).mono ?_
            rintro e x4 ⟨rfl, hb4⟩
            rw [decide_eq_true rfl]
            have hk4 := hk3.later hb4
            go_wp2_with fail
            refine hK.out _ _ ?_ (fun hHeld4 => ?_)
            · (try dsimp only); (first | exact hS | exact hk1 | exact hk2 | exact hk3 | exact hk4)
            clear hK K hHeld3
            try simp only [Act.put, List.setIfInBounds_toArray, List.set_cons_zero, List.set_cons_succ]
            refine wpAnyH_take (i := 15) (oi := { dst := some 75, op := Go.Op.unOp Go.UnOp.not 4 (Go.Operand.tmp 74), type := 4, pos := "law.go:67", after := #[{ on := 14, ground := Go.Ground.data }, { on := 9, ground := Go.Ground.guard }], guard := some (9, false) }) (v := ?_) rfl (by kernel_rfl) (by kernel_rfl) (by kernel_rfl) (fun _ _ _ h => h) (Or.inl ⟨by rfl, ?_⟩) (by assumption) ?_
            rotate_left 1
            · intro w hSw; (have d0 := hSw.gl.c0; have d1 := hSw.gl.c1; have d2 := hSw.gl.mat.cell i; rw [HR.out.1] at d2; clear hSw); go_simp; try with_reducible rfl
            try simp only [Act.put, List.setIfInBounds_toArray, List.set_cons_zero, List.set_cons_succ]
            refine wpAnyH_take (i := 16) (oi := { dst := some 76, op := Go.Op.pick (Go.Operand.tmp 69) (Go.Operand.const (Go.Value.bool true)) (Go.Operand.tmp 75), type := 4, pos := "law.go:67", after := #[{ on := 9, ground := Go.Ground.data }, { on := 15, ground := Go.Ground.data }], guard := none }) (v := ?_) rfl (by kernel_rfl) (by kernel_rfl) (by kernel_rfl) (fun _ _ _ h => h) (Or.inl ⟨by rfl, ?_⟩) (by assumption) ?_
            rotate_left 1
            · intro w hSw; (have d0 := hSw.gl.c0; have d1 := hSw.gl.c1; have d2 := hSw.gl.mat.cell i; rw [HR.out.1] at d2; clear hSw); go_simp; try with_reducible rfl
            try simp only [Act.put, List.setIfInBounds_toArray, List.set_cons_zero, List.set_cons_succ]
            refine wpAnyH_done (by kernel_rfl) ?_ _
            have HE := Lib.hid hk4.gl
            clear hg0 hb1 ho1 hk1 hr1 hb2 hk2 hb3 ho3 hk3 hr3 hb4 hk4 hHeld4 hS
            go_wp2_with fail
            go_roundw
            case rel => exact ⟨i + 1, by go_num, Lib.hid ⟨by omega, HE.out⟩⟩
            case measure => simp [intOf]; omega
      · obtain rfl : i = n := by have := HI.out.1; omega
        have pp1 : ((i : Int) < (i : Int)) = False := eq_false (by omega)
        by_cases hin : 0 ≤ x ∧ x < (i : Int) ∧ 0 ≤ y ∧ y < (i : Int)
        · obtain ⟨h1, h2, h3, h4⟩ := hin
          have hg5 := HI.out.2
          have HG5 := Lib.hid hg5
          clear hg5
          go_wp2_with fail
          clear h1 h2 h3 h4 pp1
          generalize wr = w5 at *
          go_loopw [101] (fun v wi => ∃ j : Nat, v = .int .i64 (j : Int) ∧ Hid (j ≤ i ∧ GL W W.heap.size i b a B q1 p1 q vs S wi)) (fun v _ => i - (intOf v).toNat)
          case atStart => exact ⟨0, rfl, Lib.hid ⟨Nat.zero_le _, HG5.out⟩⟩
          case round =>
            obtain ⟨j, rfl, HJ⟩ := hrel
            by_cases hj : j < i
            · have pp1 : ((j : Int) < (i : Int)) = True := eq_true (by omega)
              have j0 : 0 ≤ (j : Int) := by omega
              have j1 : (j : Int) < (i : Int) := by omega
              have hgl := HJ.out.2
              obtain ⟨rv, l, hrv, hl2, hr⟩ := hgl.mat.get (i := j) (by rw [HF.out.2]; exact hj)
              obtain ⟨A1, c1, rfl, _, _, _⟩ := rowAt_slice hr
              rw [List.length_map] at hr hrv
              have hS : GL W W.heap.size i b a B q1 p1 q vs S (wr.drewN 1) := hgl.later (below_drewN' wr 1)
              have HR := Lib.hid (And.intro hrv (And.intro hl2 (show l.length ≤ 1048576 by have := (HP.out.2.1.few j l hl2).1; omega)))
              clear hgl hrv hl2 hr
              go_wp2_with fail
              clear pp1
              refine wp_region_held_drew (S := (GL W W.heap.size i b a B q1 p1 q vs S)) (by kernel_rfl) (by (first | exact hS | exact hk1 | exact hk2)) (fun hHeld => ?_)
              refine wpAnyH_take (i := 0) (oi := { dst := some 104, op := Go.Op.load 80 (Go.Operand.tmp 7), type := 80, pos := "law.go:76", after := #[], guard := none }) (v := ?_) rfl (by kernel_rfl) (by kernel_rfl) (by kernel_rfl) (fun _ _ _ h => h) (Or.inl ⟨by rfl, ?_⟩) (by assumption) ?_
              rotate_left 1
              · intro w hSw; (have d0 := hSw.c0; have d1 := hSw.c1; have d2 := hSw.mat.cell j; rw [HR.out.1] at d2; clear hSw); go_simp; try with_reducible rfl
              try simp only [Act.put, List.setIfInBounds_toArray, List.set_cons_zero, List.set_cons_succ]
              refine wpAnyH_take (i := 1) (oi := { dst := some 105, op := Go.Op.move (Go.Operand.tmp 15), type := 3, pos := "law.go:76", after := #[], guard := none }) (v := ?_) rfl (by kernel_rfl) (by kernel_rfl) (by kernel_rfl) (fun _ _ _ h => h) (Or.inl ⟨by rfl, ?_⟩) (by assumption) ?_
              rotate_left 1
              · intro w hSw; (have d0 := hSw.c0; have d1 := hSw.c1; have d2 := hSw.mat.cell j; rw [HR.out.1] at d2; clear hSw); go_simp; try with_reducible rfl
              try simp only [Act.put, List.setIfInBounds_toArray, List.set_cons_zero, List.set_cons_succ]
              refine wpAnyH_take (i := 3) (oi := { dst := some 107, op := Go.Op.move (Go.Operand.tmp 8), type := 78, pos := "law.go:76", after := #[], guard := none }) (v := ?_) rfl (by kernel_rfl) (by kernel_rfl) (by kernel_rfl) (fun _ _ _ h => h) (Or.inl ⟨by rfl, ?_⟩) (by assumption) ?_
              rotate_left 1
              · intro w hSw; (have d0 := hSw.c0; have d1 := hSw.c1; have d2 := hSw.mat.cell j; rw [HR.out.1] at d2; clear hSw); go_simp; try with_reducible rfl
              try simp only [Act.put, List.setIfInBounds_toArray, List.set_cons_zero, List.set_cons_succ]
              refine wpAnyH_take (i := 4) (oi := { dst := some 108, op := Go.Op.move (Go.Operand.tmp 15), type := 3, pos := "law.go:76", after := #[], guard := none }) (v := ?_) rfl (by kernel_rfl) (by kernel_rfl) (by kernel_rfl) (fun _ _ _ h => h) (Or.inl ⟨by rfl, ?_⟩) (by assumption) ?_
              rotate_left 1
              · intro w hSw; (have d0 := hSw.c0; have d1 := hSw.c1; have d2 := hSw.mat.cell j; rw [HR.out.1] at d2; clear hSw); go_simp; try with_reducible rfl
              try simp only [Act.put, List.setIfInBounds_toArray, List.set_cons_zero, List.set_cons_succ]
              refine wpAnyH_take (i := 5) (oi := { dst := some 109, op := Go.Op.indexAddr 78 (Go.Operand.tmp 107) (Go.Operand.tmp 108), type := 0, pos := "law.go:76", after := #[{ on := 3, ground := Go.Ground.data }, { on := 4, ground := Go.Ground.data }], guard := none }) (v := ?_) rfl (by kernel_rfl) (by kernel_rfl) (by kernel_rfl) (fun _ _ _ h => h) (Or.inl ⟨by rfl, ?_⟩) (by assumption) ?_
              rotate_left 1
              · intro w hSw; (have d0 := hSw.c0; have d1 := hSw.c1; have d2 := hSw.mat.cell j; rw [HR.out.1] at d2; clear hSw); go_simp; try with_reducible rfl
              try simp only [Act.put, List.setIfInBounds_toArray, List.set_cons_zero, List.set_cons_succ]
              refine wpAnyH_take (i := 6) (oi := { dst := some 110, op := Go.Op.load 40 (Go.Operand.tmp 109), type := 40, pos := "law.go:76", after := #[{ on := 5, ground := Go.Ground.data }], guard := none }) (v := ?_) rfl (by kernel_rfl) (by kernel_rfl) (by kernel_rfl) (fun _ _ _ h => h) (Or.inl ⟨by rfl, ?_⟩) (by assumption) ?_
              rotate_left 1
              · intro w hSw; (have d0 := hSw.c0; have d1 := hSw.c1; have d2 := hSw.mat.cell j; rw [HR.out.1] at d2; clear hSw); go_simp; try with_reducible rfl
              try simp only [Act.put, List.setIfInBounds_toArray, List.set_cons_zero, List.set_cons_succ]
              refine wpAnyH_ready (rs := [2]) (by kernel_rfl) (by simp) ?_
              refine AllReadyH.cons (o := { dst := some 106, op := Go.Op.call { callee := Go.Callee.value (Go.Operand.func 49), args := #[Go.Operand.tmp 104, Go.Operand.tmp 105], argTypes := #[80, 3] }, type := 40, pos := "law.go:76", after := #[{ on := 0, ground := Go.Ground.data }, { on := 1, ground := Go.Ground.data }], guard := none }) rfl (fun K hK => ?_) AllReadyH.nil
              go_simp
              have hg0 := hHeld
              refine (behind_in hg0.gr j _ HR.out.2.1 HR.out.2.2).mono ?_
              rintro e x1 ⟨v1, rfl, ho1, hb1⟩
              obtain ⟨A3, c3, rfl, _, _, _⟩ := rowAt_slice (RowAt.of_own ho1)
              have hr1 := RowAt.of_own ho1
              have hk1 := hg0.later hb1
              simp only [List.length_map] at hr1 ⊢
              go_wp2_with fail
              refine hK.out _ _ ?_ (fun hHeld1 => ?_)
              · (try dsimp only); (first | exact hS | exact hk1 | exact hk2)
              clear hK K hHeld
              try simp only [Act.put, List.setIfInBounds_toArray, List.set_cons_zero, List.set_cons_succ]
              refine wpAnyH_ready (rs := [7]) (by kernel_rfl) (by simp) ?_
              refine AllReadyH.cons (o := { dst := some 111, op := Go.Op.call { callee := Go.Callee.value (Go.Operand.func 45), args := #[Go.Operand.tmp 106, Go.Operand.tmp 110], argTypes := #[40, 40] }, type := 4, pos := "law.go:76", after := #[{ on := 2, ground := Go.Ground.data }, { on := 6, ground := Go.Ground.data }, { on := 2, ground := Go.Ground.chain }], guard := none }) rfl (fun K hK => ?_) AllReadyH.nil
              go_simp
              refine (equalG hr1 (hk1.mat.row j _ _ HR.out.1 HR.out.2.1)).mono ?_
              rintro e x2 ⟨rfl, hb2⟩
              rw [decide_eq_true rfl]
              have hk2 := hk1.later hb2
              go_wp2_with fail
              refine hK.out _ _ ?_ (fun hHeld2 => ?_)
              · (try dsimp only); (first | exact hS | exact hk1 | exact hk2)
              clear hK K hHeld1
              try simp only [Act.put, List.setIfInBounds_toArray, List.set_cons_zero, List.set_cons_succ]
              refine wpAnyH_take (i := 8) (oi := { dst := some 112, op := Go.Op.unOp Go.UnOp.not 4 (Go.Operand.tmp 111), type := 4, pos := "law.go:76", after := #[{ on := 7, ground := Go.Ground.data }], guard := none }) (v := ?_) rfl (by kernel_rfl) (by kernel_rfl) (by kernel_rfl) (fun _ _ _ h => h) (Or.inl ⟨by rfl, ?_⟩) (by assumption) ?_
              rotate_left 1
              · intro w hSw; (have d0 := hSw.c0; have d1 := hSw.c1; have d2 := hSw.mat.cell j; rw [HR.out.1] at d2; clear hSw); go_simp; try with_reducible rfl
              try simp only [Act.put, List.setIfInBounds_toArray, List.set_cons_zero, List.set_cons_succ]
              refine wpAnyH_done (by kernel_rfl) ?_ _
              have HE := Lib.hid hk2
              clear hg0 hb1 ho1 hk1 hr1 hb2 hk2 hHeld2 hS
              go_wp2_with fail
              go_roundw
              case rel => exact ⟨j + 1, by go_num, Lib.hid ⟨by omega, HE.out⟩⟩
              case measure => simp [intOf]; omega
            · obtain rfl : j = i := by have := HJ.out.1; omega
              have pp1 : ((j : Int) < (j : Int)) = False := eq_false (by omega)
              have hS : GL W W.heap.size j b a B q1 p1 q vs S (wr.drewN 1) := HJ.out.2.later (below_drewN' wr 1)
              go_wp2_with fail
              clear pp1
              refine wp_region_held_drew (S := (GL W W.heap.size j b a B q1 p1 q vs S)) (by kernel_rfl) (by (first | exact hS | exact hm1 | exact hm2 | exact hm3 | exact hm4 | exact hm5)) (fun hHeld => ?_)
              refine wpAnyH_take (i := 0) (oi := { dst := some 114, op := Go.Op.load 80 (Go.Operand.tmp 7), type := 80, pos := "law.go:80", after := #[], guard := none }) (v := ?_) rfl (by kernel_rfl) (by kernel_rfl) (by kernel_rfl) (fun _ _ _ h => h) (Or.inl ⟨by rfl, ?_⟩) (by assumption) ?_
              rotate_left 1
              · intro w hSw; (have d0 := hSw.c0; have d1 := hSw.c1; clear hSw); go_simp; try with_reducible rfl
              try simp only [Act.put, List.setIfInBounds_toArray, List.set_cons_zero, List.set_cons_succ]
              refine wpAnyH_take (i := 1) (oi := { dst := some 115, op := Go.Op.move (Go.Operand.tmp 9), type := 3, pos := "law.go:80", after := #[], guard := none }) (v := ?_) rfl (by kernel_rfl) (by kernel_rfl) (by kernel_rfl) (fun _ _ _ h => h) (Or.inl ⟨by rfl, ?_⟩) (by assumption) ?_
              rotate_left 1
              · intro w hSw; (have d0 := hSw.c0; have d1 := hSw.c1; clear hSw); go_simp; try with_reducible rfl
              try simp only [Act.put, List.setIfInBounds_toArray, List.set_cons_zero, List.set_cons_succ]
              refine wpAnyH_take (i := 4) (oi := { dst := some 118, op := Go.Op.load 80 (Go.Operand.tmp 7), type := 80, pos := "law.go:80", after := #[], guard := none }) (v := ?_) rfl (by kernel_rfl) (by kernel_rfl) (by kernel_rfl) (fun _ _ _ h => h) (Or.inl ⟨by rfl, ?_⟩) (by assumption) ?_
              rotate_left 1
              · intro w hSw; (have d0 := hSw.c0; have d1 := hSw.c1; clear hSw); go_simp; try with_reducible rfl
              try simp only [Act.put, List.setIfInBounds_toArray, List.set_cons_zero, List.set_cons_succ]
              refine wpAnyH_take (i := 8) (oi := { dst := some 122, op := Go.Op.load 80 (Go.Operand.tmp 7), type := 80, pos := "law.go:80", after := #[], guard := none }) (v := ?_) rfl (by kernel_rfl) (by kernel_rfl) (by kernel_rfl) (fun _ _ _ h => h) (Or.inl ⟨by rfl, ?_⟩) (by assumption) ?_
              rotate_left 1
              · intro w hSw; (have d0 := hSw.c0; have d1 := hSw.c1; clear hSw); go_simp; try with_reducible rfl
              try simp only [Act.put, List.setIfInBounds_toArray, List.set_cons_zero, List.set_cons_succ]
              refine wpAnyH_take (i := 9) (oi := { dst := some 123, op := Go.Op.move (Go.Operand.tmp 9), type := 3, pos := "law.go:80", after := #[], guard := none }) (v := ?_) rfl (by kernel_rfl) (by kernel_rfl) (by kernel_rfl) (fun _ _ _ h => h) (Or.inl ⟨by rfl, ?_⟩) (by assumption) ?_
              rotate_left 1
              · intro w hSw; (have d0 := hSw.c0; have d1 := hSw.c1; clear hSw); go_simp; try with_reducible rfl
              try simp only [Act.put, List.setIfInBounds_toArray, List.set_cons_zero, List.set_cons_succ]
              refine wpAnyH_ready (rs := [2]) (by kernel_rfl) (by simp) ?_
              refine AllReadyH.cons (o := { dst := some 116, op := Go.Op.call { callee := Go.Callee.value (Go.Operand.func 49), args := #[Go.Operand.tmp 114, Go.Operand.tmp 115], argTypes := #[80, 3] }, type := 40, pos := "law.go:80", after := #[{ on := 0, ground := Go.Ground.data }, { on := 1, ground := Go.Ground.data }], guard := none }) rfl (fun K hK => ?_) AllReadyH.nil
              go_simp
              refine (behind_out (hHeld).gr _ (Or.inr (by have := HF.out.2; omega))).mono ?_
              rintro e y1 ⟨rfl, hc1⟩
              have hm1 := (hHeld).later hc1
              go_wp2_with fail
              refine hK.out _ _ ?_ (fun hHeld1 => ?_)
              · (try dsimp only); (first | exact hS | exact hm1 | exact hm2 | exact hm3 | exact hm4 | exact hm5)
              clear hK K hHeld
              try simp only [Act.put, List.setIfInBounds_toArray, List.set_cons_zero, List.set_cons_succ]
              refine wpAnyH_take (i := 3) (oi := { dst := some 117, op := Go.Op.call { callee := Go.Callee.builtin Go.Builtin.len, args := #[Go.Operand.tmp 116], argTypes := #[40] }, type := 3, pos := "law.go:80", after := #[{ on := 2, ground := Go.Ground.data }], guard := none }) (v := ?_) rfl (by kernel_rfl) (by kernel_rfl) (by kernel_rfl) (fun _ _ _ h => h) (Or.inl ⟨by rfl, ?_⟩) (by assumption) ?_
              rotate_left 1
              · intro w hSw; (have d0 := hSw.c0; have d1 := hSw.c1; clear hSw); go_simp; try with_reducible rfl
              try simp only [Act.put, List.setIfInBounds_toArray, List.set_cons_zero, List.set_cons_succ]
              refine wpAnyH_ready (rs := [5]) (by kernel_rfl) (by simp) ?_
              refine AllReadyH.cons (o := { dst := some 119, op := Go.Op.call { callee := Go.Callee.value (Go.Operand.func 49), args := #[Go.Operand.tmp 118, Go.Operand.const (Go.Value.int Go.IntKind.i64 (-1))], argTypes := #[80, 3] }, type := 40, pos := "law.go:80", after := #[{ on := 4, ground := Go.Ground.data }, { on := 2, ground := Go.Ground.chain }], guard := none }) rfl (fun K hK => ?_) AllReadyH.nil
              go_simp
              refine (behind_out (hm1).gr _ (Or.inl (by decide))).mono ?_
              rintro e y2 ⟨rfl, hc2⟩
              have hm2 := (hm1).later hc2
              go_wp2_with fail
              refine hK.out _ _ ?_ (fun hHeld2 => ?_)
              · (try dsimp only); (first | exact hS | exact hm1 | exact hm2 | exact hm3 | exact hm4 | exact hm5)
              clear hK K hHeld1
              try simp only [Act.put, List.setIfInBounds_toArray, List.set_cons_zero, List.set_cons_succ]
              refine wpAnyH_take (i := 6) (oi := { dst := some 120, op := Go.Op.call { callee := Go.Callee.builtin Go.Builtin.len, args := #[Go.Operand.tmp 119], argTypes := #[40] }, type := 3, pos := "law.go:80", after := #[{ on := 5, ground := Go.Ground.data }], guard := none }) (v := ?_) rfl (by kernel_rfl) (by kernel_rfl) (by kernel_rfl) (fun _ _ _ h => h) (Or.inl ⟨by rfl, ?_⟩) (by assumption) ?_
              rotate_left 1
              · intro w hSw; (have d0 := hSw.c0; have d1 := hSw.c1; clear hSw); go_simp; try with_reducible rfl
              try simp only [Act.put, List.setIfInBounds_toArray, List.set_cons_zero, List.set_cons_succ]
              refine wpAnyH_take (i := 7) (oi := { dst := some 121, op := Go.Op.binOp Go.BinOp.add 3 (Go.Operand.tmp 117) (Go.Operand.tmp 120) 3, type := 3, pos := "law.go:80", after := #[{ on := 3, ground := Go.Ground.data }, { on := 6, ground := Go.Ground.data }], guard := none }) (v := ?_) rfl (by kernel_rfl) (by kernel_rfl) (by kernel_rfl) (fun _ _ _ h => h) (Or.inl ⟨by rfl, ?_⟩) (by assumption) ?_
              rotate_left 1
              · intro w hSw; (have d0 := hSw.c0; have d1 := hSw.c1; clear hSw); go_simp; try with_reducible rfl
              try simp only [Act.put, List.setIfInBounds_toArray, List.set_cons_zero, List.set_cons_succ]
              refine wpAnyH_ready (rs := [10]) (by kernel_rfl) (by simp) ?_
              refine AllReadyH.cons (o := { dst := some 124, op := Go.Op.call { callee := Go.Callee.value (Go.Operand.func 50), args := #[Go.Operand.tmp 122, Go.Operand.tmp 123], argTypes := #[80, 3] }, type := 40, pos := "law.go:80", after := #[{ on := 8, ground := Go.Ground.data }, { on := 9, ground := Go.Ground.data }, { on := 5, ground := Go.Ground.chain }], guard := none }) rfl (fun K hK => ?_) AllReadyH.nil
              go_simp
              refine (ahead_out (hm2).gr _ (Or.inr (by have := HF.out.2; omega))).mono ?_
              rintro e y3 ⟨rfl, hc3⟩
              have hm3 := (hm2).later hc3
              go_wp2_with fail
              refine hK.out _ _ ?_ (fun hHeld3 => ?_)
              · (try dsimp only); (first | exact hS | exact hm1 | exact hm2 | exact hm3 | exact hm4 | exact hm5)
              clear hK K hHeld2
              try simp only [Act.put, List.setIfInBounds_toArray, List.set_cons_zero, List.set_cons_succ]
              refine wpAnyH_take (i := 11) (oi := { dst := some 125, op := Go.Op.call { callee := Go.Callee.builtin Go.Builtin.len, args := #[Go.Operand.tmp 124], argTypes := #[40] }, type := 3, pos := "law.go:80", after := #[{ on := 10, ground := Go.Ground.data }], guard := none }) (v := ?_) rfl (by kernel_rfl) (by kernel_rfl) (by kernel_rfl) (fun _ _ _ h => h) (Or.inl ⟨by rfl, ?_⟩) (by assumption) ?_
              rotate_left 1
              · intro w hSw; (have d0 := hSw.c0; have d1 := hSw.c1; clear hSw); go_simp; try with_reducible rfl
              try simp only [Act.put, List.setIfInBounds_toArray, List.set_cons_zero, List.set_cons_succ]
              refine wpAnyH_take (i := 12) (oi := { dst := some 126, op := Go.Op.binOp Go.BinOp.add 3 (Go.Operand.tmp 121) (Go.Operand.tmp 125) 3, type := 3, pos := "law.go:80", after := #[{ on := 7, ground := Go.Ground.data }, { on := 11, ground := Go.Ground.data }], guard := none }) (v := ?_) rfl (by kernel_rfl) (by kernel_rfl) (by kernel_rfl) (fun _ _ _ h => h) (Or.inl ⟨by rfl, ?_⟩) (by assumption) ?_
              rotate_left 1
              · intro w hSw; (have d0 := hSw.c0; have d1 := hSw.c1; clear hSw); go_simp; try with_reducible rfl
              try simp only [Act.put, List.setIfInBounds_toArray, List.set_cons_zero, List.set_cons_succ]
              refine wpAnyH_take (i := 13) (oi := { dst := some 127, op := Go.Op.binOp Go.BinOp.eql 3 (Go.Operand.tmp 126) (Go.Operand.const (Go.Value.int Go.IntKind.i64 0)) 3, type := 4, pos := "law.go:80", after := #[{ on := 12, ground := Go.Ground.data }], guard := none }) (v := ?_) rfl (by kernel_rfl) (by kernel_rfl) (by kernel_rfl) (fun _ _ _ h => h) (Or.inl ⟨by rfl, ?_⟩) (by assumption) ?_
              rotate_left 1
              · intro w hSw; (have d0 := hSw.c0; have d1 := hSw.c1; clear hSw); go_simp; try with_reducible rfl
              try simp only [Act.put, List.setIfInBounds_toArray, List.set_cons_zero, List.set_cons_succ]
              refine wpAnyH_take (i := 14) (oi := { dst := some 128, op := Go.Op.move (Go.Operand.tmp 127), type := 4, pos := "law.go:80", after := #[{ on := 13, ground := Go.Ground.data }, { on := 10, ground := Go.Ground.chain }], guard := none }) (v := ?_) rfl (by kernel_rfl) (by kernel_rfl) (by kernel_rfl) (fun _ _ _ h => h) (Or.inl ⟨by rfl, ?_⟩) (by assumption) ?_
              rotate_left 1
              · intro w hSw; (have d0 := hSw.c0; have d1 := hSw.c1; clear hSw); go_simp; try with_reducible rfl
              try simp only [Act.put, List.setIfInBounds_toArray, List.set_cons_zero, List.set_cons_succ]
              refine wpAnyH_take (i := 15) (oi := { dst := some 129, op := Go.Op.move (Go.Operand.tmp 1), type := 3, pos := "law.go:80", after := #[{ on := 14, ground := Go.Ground.guard }], guard := some (14, true) }) (v := ?_) rfl (by kernel_rfl) (by kernel_rfl) (by kernel_rfl) (fun _ _ _ h => h) (Or.inl ⟨by rfl, ?_⟩) (by assumption) ?_
              rotate_left 1
              · intro w hSw; (have d0 := hSw.c0; have d1 := hSw.c1; clear hSw); go_simp; try with_reducible rfl
              try simp only [Act.put, List.setIfInBounds_toArray, List.set_cons_zero, List.set_cons_succ]
              refine wpAnyH_take (i := 16) (oi := { dst := some 130, op := Go.Op.call { callee := Go.Callee.builtin Go.Builtin.min, args := #[Go.Operand.tmp 129, Go.Operand.const (Go.Value.int Go.IntKind.i64 0)], argTypes := #[3, 3] }, type := 3, pos := "law.go:80", after := #[{ on := 15, ground := Go.Ground.data }, { on := 14, ground := Go.Ground.guard }], guard := some (14, true) }) (v := ?_) rfl (by kernel_rfl) (by kernel_rfl) (by kernel_rfl) (fun _ _ _ h => h) (Or.inl ⟨by rfl, ?_⟩) (by assumption) ?_
              rotate_left 1
              · intro w hSw; (have d0 := hSw.c0; have d1 := hSw.c1; clear hSw); go_simp; try with_reducible rfl
              try simp only [Act.put, List.setIfInBounds_toArray, List.set_cons_zero, List.set_cons_succ]
              refine wpAnyH_ready (rs := [17]) (by kernel_rfl) (by simp) ?_
              refine AllReadyH.cons (o := { dst := some 131, op := Go.Op.call { callee := Go.Callee.value (Go.Operand.func 42), args := #[Go.Operand.tmp 130], argTypes := #[3] }, type := 80, pos := "law.go:80", after := #[{ on := 16, ground := Go.Ground.data }, { on := 14, ground := Go.Ground.chain }, { on := 14, ground := Go.Ground.guard }], guard := some (14, true) }) rfl (fun K hK => ?_) AllReadyH.nil
              go_simp
              refine (new_min x _).mono ?_
              rintro e y4 ⟨gv, rfl, ⟨S4, hg4⟩, hc4⟩
              obtain ⟨q5, p5, rfl⟩ := hg4.form
              have hm4 := hm3.later hc4
              simp only [List.length_replicate]
              go_wp2_with fail
              refine hK.out _ _ ?_ (fun hHeld4 => ?_)
              · (try dsimp only); (first | exact hS | exact hm1 | exact hm2 | exact hm3 | exact hm4 | exact hm5)
              clear hK K hHeld3
              try simp only [Act.put, List.setIfInBounds_toArray, List.set_cons_zero, List.set_cons_succ]
              refine wpAnyH_ready (rs := [18]) (by kernel_rfl) (by simp) ?_
              refine AllReadyH.cons (o := { dst := some 132, op := Go.Op.call { callee := Go.Callee.value (Go.Operand.func 43), args := #[Go.Operand.tmp 131], argTypes := #[80] }, type := 3, pos := "law.go:80", after := #[{ on := 17, ground := Go.Ground.data }, { on := 17, ground := Go.Ground.chain }, { on := 14, ground := Go.Ground.guard }], guard := some (14, true) }) rfl (fun K hK => ?_) AllReadyH.nil
              go_simp
              refine (len_calls q5 0 p5 0 0 0 _).mono ?_
              rintro e y5 ⟨rfl, hc5⟩
              have hm5 := hm4.later hc5
              go_wp2_with fail
              refine hK.out _ _ ?_ (fun hHeld5 => ?_)
              · (try dsimp only); (first | exact hS | exact hm1 | exact hm2 | exact hm3 | exact hm4 | exact hm5)
              clear hK K hHeld4
              try simp only [Act.put, List.setIfInBounds_toArray, List.set_cons_zero, List.set_cons_succ]
              refine wpAnyH_take (i := 19) (oi := { dst := some 133, op := Go.Op.binOp Go.BinOp.eql 3 (Go.Operand.tmp 132) (Go.Operand.const (Go.Value.int Go.IntKind.i64 0)) 3, type := 4, pos := "law.go:80", after := #[{ on := 18, ground := Go.Ground.data }, { on := 14, ground := Go.Ground.guard }], guard := some (14, true) }) (v := ?_) rfl (by kernel_rfl) (by kernel_rfl) (by kernel_rfl) (fun _ _ _ h => h) (Or.inl ⟨by rfl, ?_⟩) (by assumption) ?_
              rotate_left 1
              · intro w hSw; (have d0 := hSw.c0; have d1 := hSw.c1; clear hSw); go_simp; try with_reducible rfl
              try simp only [Act.put, List.setIfInBounds_toArray, List.set_cons_zero, List.set_cons_succ]
              refine wpAnyH_take (i := 20) (oi := { dst := some 134, op := Go.Op.pick (Go.Operand.tmp 128) (Go.Operand.tmp 133) (Go.Operand.const (Go.Value.bool false)), type := 4, pos := "law.go:80", after := #[{ on := 14, ground := Go.Ground.data }, { on := 19, ground := Go.Ground.data }], guard := none }) (v := ?_) rfl (by kernel_rfl) (by kernel_rfl) (by kernel_rfl) (fun _ _ _ h => h) (Or.inl ⟨by rfl, ?_⟩) (by assumption) ?_
              rotate_left 1
              · intro w hSw; (have d0 := hSw.c0; have d1 := hSw.c1; clear hSw); go_simp; try with_reducible rfl
              try simp only [Act.put, List.setIfInBounds_toArray, List.set_cons_zero, List.set_cons_succ]
              refine wpAnyH_take (i := 21) (oi := { dst := some 6, op := Go.Op.assign (Go.Operand.tmp 134), type := 4, pos := "law.go:80", after := #[{ on := 20, ground := Go.Ground.data }, { on := 18, ground := Go.Ground.chain }, { on := 0, ground := Go.Ground.phase }, { on := 1, ground := Go.Ground.phase }, { on := 2, ground := Go.Ground.phase }, { on := 3, ground := Go.Ground.phase }, { on := 4, ground := Go.Ground.phase }, { on := 5, ground := Go.Ground.phase }, { on := 6, ground := Go.Ground.phase }, { on := 7, ground := Go.Ground.phase }, { on := 8, ground := Go.Ground.phase }, { on := 9, ground := Go.Ground.phase }, { on := 10, ground := Go.Ground.phase }, { on := 11, ground := Go.Ground.phase }, { on := 12, ground := Go.Ground.phase }, { on := 13, ground := Go.Ground.phase }, { on := 14, ground := Go.Ground.phase }, { on := 15, ground := Go.Ground.phase }, { on := 16, ground := Go.Ground.phase }, { on := 17, ground := Go.Ground.phase }, { on := 18, ground := Go.Ground.phase }, { on := 19, ground := Go.Ground.phase }, { on := 20, ground := Go.Ground.phase }], guard := none }) (v := ?_) rfl (by kernel_rfl) (by kernel_rfl) (by kernel_rfl) (fun _ _ _ h => h) (Or.inl ⟨by rfl, ?_⟩) (by assumption) ?_
              rotate_left 1
              · intro w hSw; (have d0 := hSw.c0; have d1 := hSw.c1; clear hSw); go_simp; try with_reducible rfl
              try simp only [Act.put, List.setIfInBounds_toArray, List.set_cons_zero, List.set_cons_succ]
              refine wpAnyH_done (by kernel_rfl) ?_ _
              have hbel := hm5.below
              clear hc1 hm1 hc2 hm2 hc3 hm3 hc4 hg4 hm4 hc5 hm5 hS
              go_wp2_with fail
              go_ret
              exact ⟨rfl, hbel⟩
        · have hc4 : x < 0 ∨ (0 ≤ x ∧ (i : Int) ≤ x) ∨ (0 ≤ x ∧ x < (i : Int) ∧ y < 0) ∨ (0 ≤ x ∧ x < (i : Int) ∧ 0 ≤ y ∧ (i : Int) ≤ y) := by omega
          have HIN := Lib.hid hin
          have d0 := HI.out.2.c0
          have d1 := HI.out.2.c1
          clear hin
          rcases hc4 with h1 | ⟨h1, h2⟩ | ⟨h1, h2, h3⟩ | ⟨h1, h2, h3, h4⟩
          all_goals
            try have hd4 : decide (y < (i : Int)) = false := decide_eq_false (by omega)
            go_wp2_with fail
            refine (join_out HI.out.2.gr x y (by have := HIN.out; have := HF.out.2; omega)).mono ?_
            rintro e w5 ⟨rfl, hb5⟩
            have HG5 := Lib.hid (HI.out.2.later hb5)
            clear d0 d1 hb5
            go_wp2_with fail
            clear pp1
            go_loopw [101] (fun v wi => ∃ j : Nat, v = .int .i64 (j : Int) ∧ Hid (j ≤ i ∧ GL W W.heap.size i b a B q1 p1 q vs S wi)) (fun v _ => i - (intOf v).toNat)
            case atStart => exact ⟨0, rfl, Lib.hid ⟨Nat.zero_le _, HG5.out⟩⟩
            case round =>
              obtain ⟨j, rfl, HJ⟩ := hrel
              by_cases hj : j < i
              · have pp1 : ((j : Int) < (i : Int)) = True := eq_true (by omega)
                have j0 : 0 ≤ (j : Int) := by omega
                have j1 : (j : Int) < (i : Int) := by omega
                have hgl := HJ.out.2
                obtain ⟨rv, l, hrv, hl2, hr⟩ := hgl.mat.get (i := j) (by rw [HF.out.2]; exact hj)
                obtain ⟨A1, c1, rfl, _, _, _⟩ := rowAt_slice hr
                rw [List.length_map] at hr hrv
                have hS : GL W W.heap.size i b a B q1 p1 q vs S (wr.drewN 1) := hgl.later (below_drewN' wr 1)
                have HR := Lib.hid (And.intro hrv (And.intro hl2 (show l.length ≤ 1048576 by have := (HP.out.2.1.few j l hl2).1; omega)))
                clear hgl hrv hl2 hr
                go_wp2_with fail
                clear pp1
                refine wp_region_held_drew (S := (GL W W.heap.size i b a B q1 p1 q vs S)) (by kernel_rfl) (by (first | exact hS | exact hk1 | exact hk2)) (fun hHeld => ?_)
                refine wpAnyH_take (i := 0) (oi := { dst := some 104, op := Go.Op.load 80 (Go.Operand.tmp 7), type := 80, pos := "law.go:76", after := #[], guard := none }) (v := ?_) rfl (by kernel_rfl) (by kernel_rfl) (by kernel_rfl) (fun _ _ _ h => h) (Or.inl ⟨by rfl, ?_⟩) (by assumption) ?_
                rotate_left 1
                · intro w hSw; (have d0 := hSw.c0; have d1 := hSw.c1; have d2 := hSw.mat.cell j; rw [HR.out.1] at d2; clear hSw); go_simp; try with_reducible rfl
                try simp only [Act.put, List.setIfInBounds_toArray, List.set_cons_zero, List.set_cons_succ]
                refine wpAnyH_take (i := 1) (oi := { dst := some 105, op := Go.Op.move (Go.Operand.tmp 15), type := 3, pos := "law.go:76", after := #[], guard := none }) (v := ?_) rfl (by kernel_rfl) (by kernel_rfl) (by kernel_rfl) (fun _ _ _ h => h) (Or.inl ⟨by rfl, ?_⟩) (by assumption) ?_
                rotate_left 1
                · intro w hSw; (have d0 := hSw.c0; have d1 := hSw.c1; have d2 := hSw.mat.cell j; rw [HR.out.1] at d2; clear hSw); go_simp; try with_reducible rfl
                try simp only [Act.put, List.setIfInBounds_toArray, List.set_cons_zero, List.set_cons_succ]
                refine wpAnyH_take (i := 3) (oi := { dst := some 107, op := Go.Op.move (Go.Operand.tmp 8), type := 78, pos := "law.go:76", after := #[], guard := none }) (v := ?_) rfl (by kernel_rfl) (by kernel_rfl) (by kernel_rfl) (fun _ _ _ h => h) (Or.inl ⟨by rfl, ?_⟩) (by assumption) ?_
                rotate_left 1
                · intro w hSw; (have d0 := hSw.c0; have d1 := hSw.c1; have d2 := hSw.mat.cell j; rw [HR.out.1] at d2; clear hSw); go_simp; try with_reducible rfl
                try simp only [Act.put, List.setIfInBounds_toArray, List.set_cons_zero, List.set_cons_succ]
                refine wpAnyH_take (i := 4) (oi := { dst := some 108, op := Go.Op.move (Go.Operand.tmp 15), type := 3, pos := "law.go:76", after := #[], guard := none }) (v := ?_) rfl (by kernel_rfl) (by kernel_rfl) (by kernel_rfl) (fun _ _ _ h => h) (Or.inl ⟨by rfl, ?_⟩) (by assumption) ?_
                rotate_left 1
                · intro w hSw; (have d0 := hSw.c0; have d1 := hSw.c1; have d2 := hSw.mat.cell j; rw [HR.out.1] at d2; clear hSw); go_simp; try with_reducible rfl
                try simp only [Act.put, List.setIfInBounds_toArray, List.set_cons_zero, List.set_cons_succ]
                refine wpAnyH_take (i := 5) (oi := { dst := some 109, op := Go.Op.indexAddr 78 (Go.Operand.tmp 107) (Go.Operand.tmp 108), type := 0, pos := "law.go:76", after := #[{ on := 3, ground := Go.Ground.data }, { on := 4, ground := Go.Ground.data }], guard := none }) (v := ?_) rfl (by kernel_rfl) (by kernel_rfl) (by kernel_rfl) (fun _ _ _ h => h) (Or.inl ⟨by rfl, ?_⟩) (by assumption) ?_
                rotate_left 1
                · intro w hSw; (have d0 := hSw.c0; have d1 := hSw.c1; have d2 := hSw.mat.cell j; rw [HR.out.1] at d2; clear hSw); go_simp; try with_reducible rfl
                try simp only [Act.put, List.setIfInBounds_toArray, List.set_cons_zero, List.set_cons_succ]
                refine wpAnyH_take (i := 6) (oi := { dst := some 110, op := Go.Op.load 40 (Go.Operand.tmp 109), type := 40, pos := "law.go:76", after := #[{ on := 5, ground := Go.Ground.data }], guard := none }) (v := ?_) rfl (by kernel_rfl) (by kernel_rfl) (by kernel_rfl) (fun _ _ _ h => h) (Or.inl ⟨by rfl, ?_⟩) (by assumption) ?_
                rotate_left 1
                · intro w hSw; (have d0 := hSw.c0; have d1 := hSw.c1; have d2 := hSw.mat.cell j; rw [HR.out.1] at d2; clear hSw); go_simp; try with_reducible rfl
                try simp only [Act.put, List.setIfInBounds_toArray, List.set_cons_zero, List.set_cons_succ]
                refine wpAnyH_ready (rs := [2]) (by kernel_rfl) (by simp) ?_
                refine AllReadyH.cons (o := { dst := some 106, op := Go.Op.call { callee := Go.Callee.value (Go.Operand.func 49), args := #[Go.Operand.tmp 104, Go.Operand.tmp 105], argTypes := #[80, 3] }, type := 40, pos := "law.go:76", after := #[{ on := 0, ground := Go.Ground.data }, { on := 1, ground := Go.Ground.data }], guard := none }) rfl (fun K hK => ?_) AllReadyH.nil
                go_simp
                have hg0 := hHeld
                refine (behind_in hg0.gr j _ HR.out.2.1 HR.out.2.2).mono ?_
                rintro e x1 ⟨v1, rfl, ho1, hb1⟩
                obtain ⟨A3, c3, rfl, _, _, _⟩ := rowAt_slice (RowAt.of_own ho1)
                have hr1 := RowAt.of_own ho1
                have hk1 := hg0.later hb1
                simp only [List.length_map] at hr1 ⊢
                go_wp2_with fail
                refine hK.out _ _ ?_ (fun hHeld1 => ?_)
                · (try dsimp only); (first | exact hS | exact hk1 | exact hk2)
                clear hK K hHeld
                try simp only [Act.put, List.setIfInBounds_toArray, List.set_cons_zero, List.set_cons_succ]
                refine wpAnyH_ready (rs := [7]) (by kernel_rfl) (by simp) ?_
                refine AllReadyH.cons (o := { dst := some 111, op := Go.Op.call { callee := Go.Callee.value (Go.Operand.func 45), args := #[Go.Operand.tmp 106, Go.Operand.tmp 110], argTypes := #[40, 40] }, type := 4, pos := "law.go:76", after := #[{ on := 2, ground := Go.Ground.data }, { on := 6, ground := Go.Ground.data }, { on := 2, ground := Go.Ground.chain }], guard := none }) rfl (fun K hK => ?_) AllReadyH.nil
                go_simp
                refine (equalG hr1 (hk1.mat.row j _ _ HR.out.1 HR.out.2.1)).mono ?_
                rintro e x2 ⟨rfl, hb2⟩
                rw [decide_eq_true rfl]
                have hk2 := hk1.later hb2
                go_wp2_with fail
                refine hK.out _ _ ?_ (fun hHeld2 => ?_)
                · (try dsimp only); (first | exact hS | exact hk1 | exact hk2)
                clear hK K hHeld1
                try simp only [Act.put, List.setIfInBounds_toArray, List.set_cons_zero, List.set_cons_succ]
                refine wpAnyH_take (i := 8) (oi := { dst := some 112, op := Go.Op.unOp Go.UnOp.not 4 (Go.Operand.tmp 111), type := 4, pos := "law.go:76", after := #[{ on := 7, ground := Go.Ground.data }], guard := none }) (v := ?_) rfl (by kernel_rfl) (by kernel_rfl) (by kernel_rfl) (fun _ _ _ h => h) (Or.inl ⟨by rfl, ?_⟩) (by assumption) ?_
                rotate_left 1
                · intro w hSw; (have d0 := hSw.c0; have d1 := hSw.c1; have d2 := hSw.mat.cell j; rw [HR.out.1] at d2; clear hSw); go_simp; try with_reducible rfl
                try simp only [Act.put, List.setIfInBounds_toArray, List.set_cons_zero, List.set_cons_succ]
                refine wpAnyH_done (by kernel_rfl) ?_ _
                have HE := Lib.hid hk2
                clear hg0 hb1 ho1 hk1 hr1 hb2 hk2 hHeld2 hS
                go_wp2_with fail
                go_roundw
                case rel => exact ⟨j + 1, by go_num, Lib.hid ⟨by omega, HE.out⟩⟩
                case measure => simp [intOf]; omega
              · obtain rfl : j = i := by have := HJ.out.1; omega
                have pp1 : ((j : Int) < (j : Int)) = False := eq_false (by omega)
                have hS : GL W W.heap.size j b a B q1 p1 q vs S (wr.drewN 1) := HJ.out.2.later (below_drewN' wr 1)
                go_wp2_with fail
                clear pp1
                refine wp_region_held_drew (S := (GL W W.heap.size j b a B q1 p1 q vs S)) (by kernel_rfl) (by (first | exact hS | exact hm1 | exact hm2 | exact hm3 | exact hm4 | exact hm5)) (fun hHeld => ?_)
                refine wpAnyH_take (i := 0) (oi := { dst := some 114, op := Go.Op.load 80 (Go.Operand.tmp 7), type := 80, pos := "law.go:80", after := #[], guard := none }) (v := ?_) rfl (by kernel_rfl) (by kernel_rfl) (by kernel_rfl) (fun _ _ _ h => h) (Or.inl ⟨by rfl, ?_⟩) (by assumption) ?_
                rotate_left 1
                · intro w hSw; (have d0 := hSw.c0; have d1 := hSw.c1; clear hSw); go_simp; try with_reducible rfl
                try simp only [Act.put, List.setIfInBounds_toArray, List.set_cons_zero, List.set_cons_succ]
                refine wpAnyH_take (i := 1) (oi := { dst := some 115, op := Go.Op.move (Go.Operand.tmp 9), type := 3, pos := "law.go:80", after := #[], guard := none }) (v := ?_) rfl (by kernel_rfl) (by kernel_rfl) (by kernel_rfl) (fun _ _ _ h => h) (Or.inl ⟨by rfl, ?_⟩) (by assumption) ?_
                rotate_left 1
                · intro w hSw; (have d0 := hSw.c0; have d1 := hSw.c1; clear hSw); go_simp; try with_reducible rfl
                try simp only [Act.put, List.setIfInBounds_toArray, List.set_cons_zero, List.set_cons_succ]
                refine wpAnyH_take (i := 4) (oi := { dst := some 118, op := Go.Op.load 80 (Go.Operand.tmp 7), type := 80, pos := "law.go:80", after := #[], guard := none }) (v := ?_) rfl (by kernel_rfl) (by kernel_rfl) (by kernel_rfl) (fun _ _ _ h => h) (Or.inl ⟨by rfl, ?_⟩) (by assumption) ?_
                rotate_left 1
                · intro w hSw; (have d0 := hSw.c0; have d1 := hSw.c1; clear hSw); go_simp; try with_reducible rfl
                try simp only [Act.put, List.setIfInBounds_toArray, List.set_cons_zero, List.set_cons_succ]
                refine wpAnyH_take (i := 8) (oi := { dst := some 122, op := Go.Op.load 80 (Go.Operand.tmp 7), type := 80, pos := "law.go:80", after := #[], guard := none }) (v := ?_) rfl (by kernel_rfl) (by kernel_rfl) (by kernel_rfl) (fun _ _ _ h => h) (Or.inl ⟨by rfl, ?_⟩) (by assumption) ?_
                rotate_left 1
                · intro w hSw; (have d0 := hSw.c0; have d1 := hSw.c1; clear hSw); go_simp; try with_reducible rfl
                try simp only [Act.put, List.setIfInBounds_toArray, List.set_cons_zero, List.set_cons_succ]
                refine wpAnyH_take (i := 9) (oi := { dst := some 123, op := Go.Op.move (Go.Operand.tmp 9), type := 3, pos := "law.go:80", after := #[], guard := none }) (v := ?_) rfl (by kernel_rfl) (by kernel_rfl) (by kernel_rfl) (fun _ _ _ h => h) (Or.inl ⟨by rfl, ?_⟩) (by assumption) ?_
                rotate_left 1
                · intro w hSw; (have d0 := hSw.c0; have d1 := hSw.c1; clear hSw); go_simp; try with_reducible rfl
                try simp only [Act.put, List.setIfInBounds_toArray, List.set_cons_zero, List.set_cons_succ]
                refine wpAnyH_ready (rs := [2]) (by kernel_rfl) (by simp) ?_
                refine AllReadyH.cons (o := { dst := some 116, op := Go.Op.call { callee := Go.Callee.value (Go.Operand.func 49), args := #[Go.Operand.tmp 114, Go.Operand.tmp 115], argTypes := #[80, 3] }, type := 40, pos := "law.go:80", after := #[{ on := 0, ground := Go.Ground.data }, { on := 1, ground := Go.Ground.data }], guard := none }) rfl (fun K hK => ?_) AllReadyH.nil
                go_simp
                refine (behind_out (hHeld).gr _ (Or.inr (by have := HF.out.2; omega))).mono ?_
                rintro e y1 ⟨rfl, hc1⟩
                have hm1 := (hHeld).later hc1
                go_wp2_with fail
                refine hK.out _ _ ?_ (fun hHeld1 => ?_)
                · (try dsimp only); (first | exact hS | exact hm1 | exact hm2 | exact hm3 | exact hm4 | exact hm5)
                clear hK K hHeld
                try simp only [Act.put, List.setIfInBounds_toArray, List.set_cons_zero, List.set_cons_succ]
                refine wpAnyH_take (i := 3) (oi := { dst := some 117, op := Go.Op.call { callee := Go.Callee.builtin Go.Builtin.len, args := #[Go.Operand.tmp 116], argTypes := #[40] }, type := 3, pos := "law.go:80", after := #[{ on := 2, ground := Go.Ground.data }], guard := none }) (v := ?_) rfl (by kernel_rfl) (by kernel_rfl) (by kernel_rfl) (fun _ _ _ h => h) (Or.inl ⟨by rfl, ?_⟩) (by assumption) ?_
                rotate_left 1
                · intro w hSw; (have d0 := hSw.c0; have d1 := hSw.c1; clear hSw); go_simp; try with_reducible rfl
                try simp only [Act.put, List.setIfInBounds_toArray, List.set_cons_zero, List.set_cons_succ]
                refine wpAnyH_ready (rs := [5]) (by kernel_rfl) (by simp) ?_
                refine AllReadyH.cons (o := { dst := some 119, op := Go.Op.call { callee := Go.Callee.value (Go.Operand.func 49), args := #[Go.Operand.tmp 118, Go.Operand.const (Go.Value.int Go.IntKind.i64 (-1))], argTypes := #[80, 3] }, type := 40, pos := "law.go:80", after := #[{ on := 4, ground := Go.Ground.data }, { on := 2, ground := Go.Ground.chain }], guard := none }) rfl (fun K hK => ?_) AllReadyH.nil
                go_simp
                refine (behind_out (hm1).gr _ (Or.inl (by decide))).mono ?_
                rintro e y2 ⟨rfl, hc2⟩
                have hm2 := (hm1).later hc2
                go_wp2_with fail
                refine hK.out _ _ ?_ (fun hHeld2 => ?_)
                · (try dsimp only); (first | exact hS | exact hm1 | exact hm2 | exact hm3 | exact hm4 | exact hm5)
                clear hK K hHeld1
                try simp only [Act.put, List.setIfInBounds_toArray, List.set_cons_zero, List.set_cons_succ]
                refine wpAnyH_take (i := 6) (oi := { dst := some 120, op := Go.Op.call { callee := Go.Callee.builtin Go.Builtin.len, args := #[Go.Operand.tmp 119], argTypes := #[40] }, type := 3, pos := "law.go:80", after := #[{ on := 5, ground := Go.Ground.data }], guard := none }) (v := ?_) rfl (by kernel_rfl) (by kernel_rfl) (by kernel_rfl) (fun _ _ _ h => h) (Or.inl ⟨by rfl, ?_⟩) (by assumption) ?_
                rotate_left 1
                · intro w hSw; (have d0 := hSw.c0; have d1 := hSw.c1; clear hSw); go_simp; try with_reducible rfl
                try simp only [Act.put, List.setIfInBounds_toArray, List.set_cons_zero, List.set_cons_succ]
                refine wpAnyH_take (i := 7) (oi := { dst := some 121, op := Go.Op.binOp Go.BinOp.add 3 (Go.Operand.tmp 117) (Go.Operand.tmp 120) 3, type := 3, pos := "law.go:80", after := #[{ on := 3, ground := Go.Ground.data }, { on := 6, ground := Go.Ground.data }], guard := none }) (v := ?_) rfl (by kernel_rfl) (by kernel_rfl) (by kernel_rfl) (fun _ _ _ h => h) (Or.inl ⟨by rfl, ?_⟩) (by assumption) ?_
                rotate_left 1
                · intro w hSw; (have d0 := hSw.c0; have d1 := hSw.c1; clear hSw); go_simp; try with_reducible rfl
                try simp only [Act.put, List.setIfInBounds_toArray, List.set_cons_zero, List.set_cons_succ]
                refine wpAnyH_ready (rs := [10]) (by kernel_rfl) (by simp) ?_
                refine AllReadyH.cons (o := { dst := some 124, op := Go.Op.call { callee := Go.Callee.value (Go.Operand.func 50), args := #[Go.Operand.tmp 122, Go.Operand.tmp 123], argTypes := #[80, 3] }, type := 40, pos := "law.go:80", after := #[{ on := 8, ground := Go.Ground.data }, { on := 9, ground := Go.Ground.data }, { on := 5, ground := Go.Ground.chain }], guard := none }) rfl (fun K hK => ?_) AllReadyH.nil
                go_simp
                refine (ahead_out (hm2).gr _ (Or.inr (by have := HF.out.2; omega))).mono ?_
                rintro e y3 ⟨rfl, hc3⟩
                have hm3 := (hm2).later hc3
                go_wp2_with fail
                refine hK.out _ _ ?_ (fun hHeld3 => ?_)
                · (try dsimp only); (first | exact hS | exact hm1 | exact hm2 | exact hm3 | exact hm4 | exact hm5)
                clear hK K hHeld2
                try simp only [Act.put, List.setIfInBounds_toArray, List.set_cons_zero, List.set_cons_succ]
                refine wpAnyH_take (i := 11) (oi := { dst := some 125, op := Go.Op.call { callee := Go.Callee.builtin Go.Builtin.len, args := #[Go.Operand.tmp 124], argTypes := #[40] }, type := 3, pos := "law.go:80", after := #[{ on := 10, ground := Go.Ground.data }], guard := none }) (v := ?_) rfl (by kernel_rfl) (by kernel_rfl) (by kernel_rfl) (fun _ _ _ h => h) (Or.inl ⟨by rfl, ?_⟩) (by assumption) ?_
                rotate_left 1
                · intro w hSw; (have d0 := hSw.c0; have d1 := hSw.c1; clear hSw); go_simp; try with_reducible rfl
                try simp only [Act.put, List.setIfInBounds_toArray, List.set_cons_zero, List.set_cons_succ]
                refine wpAnyH_take (i := 12) (oi := { dst := some 126, op := Go.Op.binOp Go.BinOp.add 3 (Go.Operand.tmp 121) (Go.Operand.tmp 125) 3, type := 3, pos := "law.go:80", after := #[{ on := 7, ground := Go.Ground.data }, { on := 11, ground := Go.Ground.data }], guard := none }) (v := ?_) rfl (by kernel_rfl) (by kernel_rfl) (by kernel_rfl) (fun _ _ _ h => h) (Or.inl ⟨by rfl, ?_⟩) (by assumption) ?_
                rotate_left 1
                · intro w hSw; (have d0 := hSw.c0; have d1 := hSw.c1; clear hSw); go_simp; try with_reducible rfl
                try simp only [Act.put, List.setIfInBounds_toArray, List.set_cons_zero, List.set_cons_succ]
                refine wpAnyH_take (i := 13) (oi := { dst := some 127, op := Go.Op.binOp Go.BinOp.eql 3 (Go.Operand.tmp 126) (Go.Operand.const (Go.Value.int Go.IntKind.i64 0)) 3, type := 4, pos := "law.go:80", after := #[{ on := 12, ground := Go.Ground.data }], guard := none }) (v := ?_) rfl (by kernel_rfl) (by kernel_rfl) (by kernel_rfl) (fun _ _ _ h => h) (Or.inl ⟨by rfl, ?_⟩) (by assumption) ?_
                rotate_left 1
                · intro w hSw; (have d0 := hSw.c0; have d1 := hSw.c1; clear hSw); go_simp; try with_reducible rfl
                try simp only [Act.put, List.setIfInBounds_toArray, List.set_cons_zero, List.set_cons_succ]
                refine wpAnyH_take (i := 14) (oi := { dst := some 128, op := Go.Op.move (Go.Operand.tmp 127), type := 4, pos := "law.go:80", after := #[{ on := 13, ground := Go.Ground.data }, { on := 10, ground := Go.Ground.chain }], guard := none }) (v := ?_) rfl (by kernel_rfl) (by kernel_rfl) (by kernel_rfl) (fun _ _ _ h => h) (Or.inl ⟨by rfl, ?_⟩) (by assumption) ?_
                rotate_left 1
                · intro w hSw; (have d0 := hSw.c0; have d1 := hSw.c1; clear hSw); go_simp; try with_reducible rfl
                try simp only [Act.put, List.setIfInBounds_toArray, List.set_cons_zero, List.set_cons_succ]
                refine wpAnyH_take (i := 15) (oi := { dst := some 129, op := Go.Op.move (Go.Operand.tmp 1), type := 3, pos := "law.go:80", after := #[{ on := 14, ground := Go.Ground.guard }], guard := some (14, true) }) (v := ?_) rfl (by kernel_rfl) (by kernel_rfl) (by kernel_rfl) (fun _ _ _ h => h) (Or.inl ⟨by rfl, ?_⟩) (by assumption) ?_
                rotate_left 1
                · intro w hSw; (have d0 := hSw.c0; have d1 := hSw.c1; clear hSw); go_simp; try with_reducible rfl
                try simp only [Act.put, List.setIfInBounds_toArray, List.set_cons_zero, List.set_cons_succ]
                refine wpAnyH_take (i := 16) (oi := { dst := some 130, op := Go.Op.call { callee := Go.Callee.builtin Go.Builtin.min, args := #[Go.Operand.tmp 129, Go.Operand.const (Go.Value.int Go.IntKind.i64 0)], argTypes := #[3, 3] }, type := 3, pos := "law.go:80", after := #[{ on := 15, ground := Go.Ground.data }, { on := 14, ground := Go.Ground.guard }], guard := some (14, true) }) (v := ?_) rfl (by kernel_rfl) (by kernel_rfl) (by kernel_rfl) (fun _ _ _ h => h) (Or.inl ⟨by rfl, ?_⟩) (by assumption) ?_
                rotate_left 1
                · intro w hSw; (have d0 := hSw.c0; have d1 := hSw.c1; clear hSw); go_simp; try with_reducible rfl
                try simp only [Act.put, List.setIfInBounds_toArray, List.set_cons_zero, List.set_cons_succ]
                refine wpAnyH_ready (rs := [17]) (by kernel_rfl) (by simp) ?_
                refine AllReadyH.cons (o := { dst := some 131, op := Go.Op.call { callee := Go.Callee.value (Go.Operand.func 42), args := #[Go.Operand.tmp 130], argTypes := #[3] }, type := 80, pos := "law.go:80", after := #[{ on := 16, ground := Go.Ground.data }, { on := 14, ground := Go.Ground.chain }, { on := 14, ground := Go.Ground.guard }], guard := some (14, true) }) rfl (fun K hK => ?_) AllReadyH.nil
                go_simp
                refine (new_min x _).mono ?_
                rintro e y4 ⟨gv, rfl, ⟨S4, hg4⟩, hc4⟩
                obtain ⟨q5, p5, rfl⟩ := hg4.form
                have hm4 := hm3.later hc4
                simp only [List.length_replicate]
                go_wp2_with fail
                refine hK.out _ _ ?_ (fun hHeld4 => ?_)
                · (try dsimp only); (first | exact hS | exact hm1 | exact hm2 | exact hm3 | exact hm4 | exact hm5)
                clear hK K hHeld3
                try simp only [Act.put, List.setIfInBounds_toArray, List.set_cons_zero, List.set_cons_succ]
                refine wpAnyH_ready (rs := [18]) (by kernel_rfl) (by simp) ?_
                refine AllReadyH.cons (o := { dst := some 132, op := Go.Op.call { callee := Go.Callee.value (Go.Operand.func 43), args := #[Go.Operand.tmp 131], argTypes := #[80] }, type := 3, pos := "law.go:80", after := #[{ on := 17, ground := Go.Ground.data }, { on := 17, ground := Go.Ground.chain }, { on := 14, ground := Go.Ground.guard }], guard := some (14, true) }) rfl (fun K hK => ?_) AllReadyH.nil
                go_simp
                refine (len_calls q5 0 p5 0 0 0 _).mono ?_
                rintro e y5 ⟨rfl, hc5⟩
                have hm5 := hm4.later hc5
                go_wp2_with fail
                refine hK.out _ _ ?_ (fun hHeld5 => ?_)
                · (try dsimp only); (first | exact hS | exact hm1 | exact hm2 | exact hm3 | exact hm4 | exact hm5)
                clear hK K hHeld4
                try simp only [Act.put, List.setIfInBounds_toArray, List.set_cons_zero, List.set_cons_succ]
                refine wpAnyH_take (i := 19) (oi := { dst := some 133, op := Go.Op.binOp Go.BinOp.eql 3 (Go.Operand.tmp 132) (Go.Operand.const (Go.Value.int Go.IntKind.i64 0)) 3, type := 4, pos := "law.go:80", after := #[{ on := 18, ground := Go.Ground.data }, { on := 14, ground := Go.Ground.guard }], guard := some (14, true) }) (v := ?_) rfl (by kernel_rfl) (by kernel_rfl) (by kernel_rfl) (fun _ _ _ h => h) (Or.inl ⟨by rfl, ?_⟩) (by assumption) ?_
                rotate_left 1
                · intro w hSw; (have d0 := hSw.c0; have d1 := hSw.c1; clear hSw); go_simp; try with_reducible rfl
                try simp only [Act.put, List.setIfInBounds_toArray, List.set_cons_zero, List.set_cons_succ]
                refine wpAnyH_take (i := 20) (oi := { dst := some 134, op := Go.Op.pick (Go.Operand.tmp 128) (Go.Operand.tmp 133) (Go.Operand.const (Go.Value.bool false)), type := 4, pos := "law.go:80", after := #[{ on := 14, ground := Go.Ground.data }, { on := 19, ground := Go.Ground.data }], guard := none }) (v := ?_) rfl (by kernel_rfl) (by kernel_rfl) (by kernel_rfl) (fun _ _ _ h => h) (Or.inl ⟨by rfl, ?_⟩) (by assumption) ?_
                rotate_left 1
                · intro w hSw; (have d0 := hSw.c0; have d1 := hSw.c1; clear hSw); go_simp; try with_reducible rfl
                try simp only [Act.put, List.setIfInBounds_toArray, List.set_cons_zero, List.set_cons_succ]
                refine wpAnyH_take (i := 21) (oi := { dst := some 6, op := Go.Op.assign (Go.Operand.tmp 134), type := 4, pos := "law.go:80", after := #[{ on := 20, ground := Go.Ground.data }, { on := 18, ground := Go.Ground.chain }, { on := 0, ground := Go.Ground.phase }, { on := 1, ground := Go.Ground.phase }, { on := 2, ground := Go.Ground.phase }, { on := 3, ground := Go.Ground.phase }, { on := 4, ground := Go.Ground.phase }, { on := 5, ground := Go.Ground.phase }, { on := 6, ground := Go.Ground.phase }, { on := 7, ground := Go.Ground.phase }, { on := 8, ground := Go.Ground.phase }, { on := 9, ground := Go.Ground.phase }, { on := 10, ground := Go.Ground.phase }, { on := 11, ground := Go.Ground.phase }, { on := 12, ground := Go.Ground.phase }, { on := 13, ground := Go.Ground.phase }, { on := 14, ground := Go.Ground.phase }, { on := 15, ground := Go.Ground.phase }, { on := 16, ground := Go.Ground.phase }, { on := 17, ground := Go.Ground.phase }, { on := 18, ground := Go.Ground.phase }, { on := 19, ground := Go.Ground.phase }, { on := 20, ground := Go.Ground.phase }], guard := none }) (v := ?_) rfl (by kernel_rfl) (by kernel_rfl) (by kernel_rfl) (fun _ _ _ h => h) (Or.inl ⟨by rfl, ?_⟩) (by assumption) ?_
                rotate_left 1
                · intro w hSw; (have d0 := hSw.c0; have d1 := hSw.c1; clear hSw); go_simp; try with_reducible rfl
                try simp only [Act.put, List.setIfInBounds_toArray, List.set_cons_zero, List.set_cons_succ]
                refine wpAnyH_done (by kernel_rfl) ?_ _
                have hbel := hm5.below
                clear hc1 hm1 hc2 hm2 hc3 hm3 hc4 hg4 hm4 hc5 hm5 hS
                go_wp2_with fail
                go_ret
                exact ⟨rfl, hbel⟩
  · rw [decide_eq_false hl]
    have hbel := H2.out.2
    go_wp2_with fail
    go_ret
    exact ⟨rfl, hbel⟩
end Go.Proofs.Ytffnkbicbfjnpaa
