/- What Last.check, Phi.check come to. Condition: the map's entries tell which labels there are. -/
import Derived.Test.YtffnkbicbfjnpaaRSem
import Derived.Test.YtffnkbicbfjnpaaMaps
import Derived.Deep.RegionHeld3
import Derived.Deep.LoopGhost
import Derived.Test.YtffnkbicbfjnpaaRP
namespace Go.Proofs.Ytffnkbicbfjnpaa
open Go.RowKit Go.Proofs.Ytffnkbicbfjnpaa.PRunFuel
open Go.Proofs.YtffnkbicbfjnpaaW.PrintWords (ReadsInt rd Kd eqA_of eqf_cons eqf_last)
open Go.Proofs.YtffnkbicbfjnpaaW.PrintWords.Kd (at_int R_reads)
theorem eqA29 (d : Nat) (w : World) (x0 y0 x1 y1 x2 y2 x3 y3 : Int) :
    (Op.equalIn (d + 2) 29 (.agg #[.int .u8 x0, .int .i64 x1, .int .i64 x2, .int .i64 x3]) (.agg #[.int .u8 y0, .int .i64 y1, .int .i64 y2, .int .i64 y3])).run Try.prog w = .ok (x0 == y0 && (x1 == y1 && (x2 == y2 && (x3 == y3)))) w := by
  refine eqA_of Try.underlying29 (by kernel_rfl) ?_
  refine eqf_cons (by rfl) (by go_simp; rfl) (by go_simp; rfl) (by go_simp) ?_
  refine eqf_cons (by rfl) (by go_simp; rfl) (by go_simp; rfl) (by go_simp) ?_
  refine eqf_cons (by rfl) (by go_simp; rfl) (by go_simp; rfl) (by go_simp) ?_
  exact eqf_last (by rfl) (by go_simp; rfl) (by go_simp; rfl) (by go_simp)
attribute [local go_sem high] eqA29
/-- The labels, as a map tells them. -/
structure LabelsAt (W : World) (mp : Nat) (L : List Int) (al : List (Int × Value)) : Prop where
  map : MapIs W mp .i64 al
  get : ∀ x, (getK al x).getD (.bool false) = .bool (decide (x ∈ L))
theorem LabelsAt.later {W W' : World} {mp : Nat} {L : List Int} {al : List (Int × Value)} (h : LabelsAt W mp L al) (hb : Below W.heap.size W W') : LabelsAt W' mp L al :=
  ⟨h.map.only (Only.of_below hb) (by have := h.map.lt; omega), h.get⟩
theorem LabelsAt.look {W : World} {mp : Nat} {L : List Int} {al : List (Int × Value)} (h : LabelsAt W mp L al) (x : Int) : (Instr.lookup 43 (.map (some mp)) (.int .i64 x) false).run Try.prog W = .ok (.bool (decide (x ∈ L))) W := by
  have := run_lookupK (P := Try.prog) Try.underlying43 Try.underlying3 (z := .bool false) (fun w => by kernel_rfl) h.map x
  rwa [h.get] at this
theorem reg_calls (a : Int) (W : World) : Calls Try.prog 129 #[.int .i64 a] W fun e w' => e = .returned (.bool (decide (0 ≤ a ∧ a < 100000))) ∧ ∃ n, w' = W.drewN n :=
  (ir_reg.calls a _ W (reg_some a)).mono fun _ _ ⟨he, hd⟩ => ⟨he, hd.out⟩
def lv (l : S29) : Value := .agg #[.int .u8 l.f0, .int .i64 l.f1, .int .i64 l.f2, .int .i64 l.f3]
theorem onlyL_calls (l : S29) (W : World) : Calls Try.prog 61 #[.agg #[.int .u8 l.f0, .int .i64 l.f1, .int .i64 l.f2, .int .i64 l.f3]] W fun e w' => e = .returned (.agg #[.int .u8 (onlyL l).f0, .int .i64 (onlyL l).f1, .int .i64 (onlyL l).f2, .int .i64 (onlyL l).f3]) ∧ Below W.heap.size W w' :=
  ir_Last_Only.calls 2 _ _ _ _ _ _ _ _ W (onlyL_some l)
theorem labels_calls (l : S29) (W : World) : Calls Try.prog 53 #[.agg #[.int .u8 l.f0, .int .i64 l.f1, .int .i64 l.f2, .int .i64 l.f3]] W fun e w' => ∃ A c, e = .returned (.slice A (labelsL l).length c) ∧ (Kd.int .i64).C w' A (labelsL l).length (labelsL l) ∧ Below W.heap.size W w' :=
  (ir_Last_Labels.calls 1 _ _ _ _ _ W (labels_some l)).mono fun _ _ ⟨v0, he, hr, hb⟩ => by
    obtain ⟨A, c, rfl, _, hc⟩ := R_reads hr
    exact ⟨A, c, he, hc, hb⟩
theorem lbox_later {W W' : World} {q : Nat} {l : S29} (h : W.cell? ⟨q, 0, none⟩ = some (.int .u8 l.f0) ∧ W.cell? ⟨q, 1, none⟩ = some (.int .i64 l.f1) ∧ W.cell? ⟨q, 2, none⟩ = some (.int .i64 l.f2) ∧ W.cell? ⟨q, 3, none⟩ = some (.int .i64 l.f3)) (hb : Below W.heap.size W W') :
    W'.cell? ⟨q, 0, none⟩ = some (.int .u8 l.f0) ∧ W'.cell? ⟨q, 1, none⟩ = some (.int .i64 l.f1) ∧ W'.cell? ⟨q, 2, none⟩ = some (.int .i64 l.f2) ∧ W'.cell? ⟨q, 3, none⟩ = some (.int .i64 l.f3) :=
  ⟨(hb.cell (World.block_lt_of_cell? _ _ h.1)).trans h.1, (hb.cell (World.block_lt_of_cell? _ _ h.2.1)).trans h.2.1, (hb.cell (World.block_lt_of_cell? _ _ h.2.2.1)).trans h.2.2.1, (hb.cell (World.block_lt_of_cell? _ _ h.2.2.2)).trans h.2.2.2⟩
theorem below_of_drew {W w1 : World} (h : Below W.drew.heap.size W.drew w1) : Below W.heap.size W w1 := ⟨h.os, h.tape, h.output, h.size, h.block⟩
theorem below_drewN (W : World) (n : Nat) : Below W.heap.size W (W.drewN n) := (Only.drewN (fun _ => False) W n).below (Nat.le_refl _) (fun _ _ => id)
theorem below_two {a b c : World} (h : Below a.heap.size a b) (k : Below b.heap.size b c) : Below a.heap.size a c := h.trans (k.mono h.size)
def LastPost (L : List Int) (l : S29) (W : World) (e : Ending) (W' : World) : Prop := ∃ c, e = .returned (.int .i64 c) ∧ (c = 0 ↔ okL L l) ∧ Below W.heap.size W W'
set_option maxHeartbeats 1000000 in
theorem last_check (l : S29) (L : List Int) (W : World) (mp : Nat) (al : List (Int × Value)) (hm : LabelsAt W mp L al) :
    Calls Try.prog 108 #[.agg #[.int .u8 l.f0, .int .i64 l.f1, .int .i64 l.f2, .int .i64 l.f3], .map (some mp)] W fun e W' => LastPost L l W e W' := by
  by_cases h4 : 4 ≤ l.f0
  · have t1 : decide (4 ≤ l.f0) = true := decide_eq_true h4
    have hN : ¬ okL L l := fun h => by have := h.1; omega
    have HN := Lib.hid hN
    clear hm h4 hN
    go_enter Try.func108, Try.ntmps108
    go_wp2
    go_ret
    exact ⟨6, rfl, Iff.intro (fun h => absurd h (by decide)) (fun h => absurd h HN.out), (Below.refl _ _).alloc (Nat.le_refl _) _⟩
  · have t1 : decide (4 ≤ l.f0) = false := decide_eq_false h4
    have hm1 := hm.later ((Below.refl W.heap.size W).alloc (Nat.le_refl _) (.cells #[.int .u8 l.f0, .int .i64 l.f1, .int .i64 l.f2, .int .i64 l.f3] 29))
    have hbw := (Below.refl W.heap.size W).alloc (Nat.le_refl _) (.cells #[.int .u8 l.f0, .int .i64 l.f1, .int .i64 l.f2, .int .i64 l.f3] 29)
    have hbox : ∀ X : World, (W.alloc (.cells #[.int .u8 l.f0, .int .i64 l.f1, .int .i64 l.f2, .int .i64 l.f3] 29)) = X → X.cell? ⟨W.heap.size, 0, none⟩ = some (.int .u8 l.f0) ∧ X.cell? ⟨W.heap.size, 1, none⟩ = some (.int .i64 l.f1) ∧ X.cell? ⟨W.heap.size, 2, none⟩ = some (.int .i64 l.f2) ∧ X.cell? ⟨W.heap.size, 3, none⟩ = some (.int .i64 l.f3) := by
      rintro X rfl
      refine ⟨?_, ?_, ?_, ?_⟩ <;> (rw [cell_of_blk _ _ _ _ _ (heap_alloc_new W _)]; rfl)
    obtain ⟨W1, hW1⟩ : ∃ W1, (W.alloc (.cells #[.int .u8 l.f0, .int .i64 l.f1, .int .i64 l.f2, .int .i64 l.f3] 29)) = W1 := ⟨_, rfl⟩
    have hS := hbox W1 hW1
    rw [hW1] at hm1 hbw
    have HW := Lib.hid hW1
    have HM := Lib.hid (And.intro hm1 hbw)
    have H4 := Lib.hid h4
    clear hbox hW1 hm1 hbw hm h4
    go_enter Try.func108, Try.ntmps108
    go_wp2
    rw [HW.out]
    go_region_held3 (fun X => X.cell? ⟨W.heap.size, 0, none⟩ = some (.int .u8 l.f0) ∧ X.cell? ⟨W.heap.size, 1, none⟩ = some (.int .i64 l.f1) ∧ X.cell? ⟨W.heap.size, 2, none⟩ = some (.int .i64 l.f2) ∧ X.cell? ⟨W.heap.size, 3, none⟩ = some (.int .i64 l.f3))
      (first | exact hS | (refine lbox_later (by assumption) ?_; assumption))
      (first | (go_at_call 61; refine (onlyL_calls l _).mono ?_; rintro e w1 ⟨rfl, hb1⟩))
    have hb2 := below_of_drew hb1
    have hS2 := lbox_later hS hb2
    have HM2 := Lib.hid (And.intro (HM.out.1.later hb2) (below_two HM.out.2 hb2))
    obtain ⟨d0, d1, d2, d3⟩ := hS2
    clear hb1 hb2 hS HM HW
    by_cases he : l = onlyL l
    · have hBq : (!l.f0 == (onlyL l).f0 || (!l.f1 == (onlyL l).f1 || (!l.f2 == (onlyL l).f2 || !l.f3 == (onlyL l).f3))) = false := by rw [← he]; simp
      rw [hBq]
      clear hBq
      have HE := Lib.hid he
      clear he
      go_wp2_with fail
      refine (reg_calls l.f1 _).mono ?_
      rintro e w' ⟨rfl, n, rfl⟩
      by_cases hr : 0 ≤ l.f1 ∧ l.f1 < 100000
      · rw [decide_eq_true hr]
        have HR := Lib.hid hr
        clear hr
        obtain ⟨w2, hw2⟩ : ∃ w2, w1.drewN n = w2 := ⟨_, rfl⟩
        have hb3 : Below w1.heap.size w1 w2 := hw2 ▸ below_drewN w1 n
        obtain ⟨d0, d1, d2, d3⟩ := lbox_later ⟨d0, d1, d2, d3⟩ hb3
        have HM3 := Lib.hid (And.intro (HM2.out.1.later hb3) (below_two HM2.out.2 hb3))
        rw [hw2]
        clear hb3 HM2 hw2
        go_wp2_with fail
        refine (labels_calls l _).mono ?_
        rintro e w3 ⟨A, c, rfl, hc, hb4⟩
        have HC := Lib.hid hc
        have HM4 := Lib.hid (And.intro (HM3.out.1.later hb4) (below_two HM3.out.2 hb4))
        clear hc hb4 HM3 d0 d1 d2 d3
        have hlook : ∀ x, (Instr.lookup 43 (.map (some mp)) (.int .i64 x) false).run Try.prog w3 = .ok (.bool (decide (x ∈ L))) w3 := fun x => HM4.out.1.look x
        have hlen : (labelsL l).length ≤ 2 := by unfold labelsL; split <;> (try split) <;> simp
        go_wp2
        go_loop [24] (fun i => ∃ k : Nat, i = .int .i64 (k : Int) ∧ Hid (k ≤ (labelsL l).length ∧ ∀ j, j < k → rd (labelsL l) j ∈ L)) (fun i => (labelsL l).length - (intOf i).toNat)
        case atStart => exact ⟨0, rfl, by omega, fun j hj => by omega⟩
        case round =>
          obtain ⟨k, rfl, HI⟩ := hrel
          by_cases hk : k < (labelsL l).length
          · obtain ⟨ad, rfl, hcell⟩ := at_int HC.out (k : Int) (by omega) (by omega)
            obtain ⟨y, hy⟩ : ∃ y, rd (labelsL l) (k : Int) = y := ⟨_, rfl⟩
            rw [hy] at hcell
            rw [Int.toNat_natCast] at hcell
            have p1 : ((k : Int) < ((labelsL l).length : Int)) = True := eq_true (by omega)
            have p2 : (0 ≤ (k : Int)) = True := eq_true (by omega)
            have hly := hlook y
            have HY := Lib.hid hy
            clear hlook hy
            by_cases hyL : y ∈ L
            · have hd : decide (y ∈ L) = true := decide_eq_true hyL
              rw [hd] at hly
              go_wp2
              go_round
              case rel => exact ⟨k + 1, by go_num, by omega, fun j hj => by
                rcases Nat.lt_or_ge j k with h | h
                · exact HI.out.2 j h
                · obtain rfl : j = k := by omega
                  rw [HY.out]; exact hyL⟩
              case measure => simp [intOf]; omega
            · have hd : decide (y ∈ L) = false := decide_eq_false hyL
              rw [hd] at hly
              go_wp2
              go_ret
              exact ⟨9, rfl, Iff.intro (fun h => absurd h (by decide)) (fun h => absurd (h.2.2.2 y (by
                rw [← HY.out]; unfold rd; rw [Int.toNat_natCast, List.getD_eq_getElem?_getD, List.getElem?_eq_getElem hk]; exact List.getElem_mem hk)) hyL), HM4.out.2⟩
          · have hk' : ((k : Int) < ((labelsL l).length : Int)) = False := eq_false (by omega)
            clear hlook
            go_wp2
            go_ret
            refine ⟨0, rfl, Iff.intro (fun _ => ⟨H4.out, HE.out, HR.out, fun n hn => ?_⟩) (fun _ => rfl), HM4.out.2⟩
            obtain ⟨j, hj, rfl⟩ := List.getElem_of_mem hn
            have := HI.out.2 j (by have := HI.out.1; omega)
            unfold rd at this
            rwa [Int.toNat_natCast, List.getD_eq_getElem?_getD, List.getElem?_eq_getElem hj] at this
      · rw [decide_eq_false hr]
        have HM3 := Lib.hid (below_two HM2.out.2 (below_drewN w1 n))
        have HR := Lib.hid hr
        clear hr HM2
        go_wp2
        go_ret
        exact ⟨2, rfl, Iff.intro (fun h => absurd h (by decide)) (fun h => absurd h.2.2.1 HR.out), HM3.out⟩
    · have hBq : (!l.f0 == (onlyL l).f0 || (!l.f1 == (onlyL l).f1 || (!l.f2 == (onlyL l).f2 || !l.f3 == (onlyL l).f3))) = true := by
        apply Classical.byContradiction
        intro hn
        simp only [Bool.not_eq_true, Bool.or_eq_false_iff, Bool.not_eq_false', beq_iff_eq] at hn
        exact he (by cases l; simp_all [onlyL])
      rw [hBq]
      have HE := Lib.hid he
      clear hBq he
      go_wp2
      go_ret
      exact ⟨5, rfl, Iff.intro (fun h => absurd h (by decide)) (fun h => absurd h.2.1 HE.out), HM2.out.2⟩
end Go.Proofs.Ytffnkbicbfjnpaa
