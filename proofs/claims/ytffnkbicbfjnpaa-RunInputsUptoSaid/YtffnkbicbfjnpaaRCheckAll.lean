/- What Program.Check comes to: 0 of a program that may be one, of no other. Conditions: no phis; no more than 2^40 instructions. -/
import Derived.Test.YtffnkbicbfjnpaaRCheck
import Derived.Deep.Cut
import Derived.Deep.DeepCutAuto
import Derived.Outline
namespace Go.Proofs.Ytffnkbicbfjnpaa
open Go.RowKit Go.Proofs.Ytffnkbicbfjnpaa.PRunFuel
open Go.Proofs.YtffnkbicbfjnpaaW.PrintWords (ReadsInt rd Kd)
theorem wp_named {P : Program} {c : Code} {Q : Exit → Act → World → Prop} {a : Act} {w : World} (h : ∀ X, X = w → Code.wp P c Q a X) : Code.wp P c Q a w := h w rfl
theorem len_count (p : List S31) : p.length ≤ countP p := by
  induction p with
  | nil => simp [countP]
  | cons b p ih => simp only [countP, List.length_cons]; omega
theorem count_some (p : List S31) (hl : p.length ≤ 1099511627776) : ∀ (n k : Nat) (x : Int), n + k = p.length → 0 ≤ x → x + countP (p.drop k) ≤ 1099511627776 → ir_Program_Count.l0 (n + 1) x p (p.length : Int) (k : Int) = some (x + countP (p.drop k))
  | 0, k, x, hk, _, _ => by
    have : k = p.length := by omega
    subst this
    simp [ir_Program_Count.l0, countP]
  | n + 1, k, x, hk, h0, hx => by
    have hlt : k < p.length := by omega
    have hd : p.drop k = p[k] :: p.drop (k + 1) := List.drop_eq_getElem_cons hlt
    rw [hd] at hx ⊢
    simp only [countP] at hx ⊢
    rw [ir_Program_Count.l0]
    rw [if_pos (by omega), if_pos (by omega), if_pos (by omega)]
    have hr : rd_T31 p (k : Int) = p[k] := by unfold rd_T31; rw [Int.toNat_natCast, List.getD_eq_getElem?_getD, List.getElem?_eq_getElem hlt]; rfl
    rw [hr]
    have e1 : wrap64 (x + (wrap64 ((wrap64 (((p[k]).f2.length : Int) + ((p[k]).f1.length : Int))) + 1))) = x + ((p[k]).f2.length + (p[k]).f1.length + 1 : Nat) := by
      simp only [wrap64]; omega
    have e2 : wrap64 ((k : Int) + 1) = ((k + 1 : Nat) : Int) := by simp only [wrap64]; omega
    rw [e1, e2]
    have := count_some p hl n (k + 1) (x + ((p[k]).f2.length + (p[k]).f1.length + 1 : Nat)) (by omega) (by omega) (by push_cast at hx ⊢; omega)
    rw [this]
    congr 1
    push_cast
    omega
theorem count_calls (p : List S31) (A : Option Addr) (c : Nat) (W : World) (hA : Kd.C k31 W A p.length p) (hc : p.length ≤ c) (hm : countP p ≤ 1099511627776) :
    Calls Try.prog 78 #[.agg #[.slice A p.length c]] W fun e w' => e = .returned (.int .i64 (countP p)) ∧ Below W.heap.size W w' :=
  ir_Program_Count.calls (p.length + 1) A c p _ W hA hc (by
    have := count_some p (by have := len_count p; omega) p.length 0 0 (by omega) (by omega) (by simp only [List.drop_zero]; omega)
    unfold ir_Program_Count.f
    simpa using this)
theorem instr_check_calls (x : S38) (W : World) : Calls Try.prog 107 #[.agg #[.int .u8 x.f0, .int .u8 x.f1, .int .i64 x.f2, .int .i64 x.f3, .int .i64 x.f4, .int .i64 x.f5, .int .i64 x.f6]] W fun e w' => ∃ c, e = .returned (.int .i64 c) ∧ (c = 0 ↔ okI x) ∧ Below W.heap.size W w' := by
  obtain ⟨c, h1, h2⟩ := check_some x
  exact (ir_Instr_check.calls 2 _ _ _ _ _ _ _ c W h1).mono fun _ _ ⟨he, hb⟩ => ⟨c, he, h2, hb⟩
theorem rd_mem {p : List S31} {k : Nat} (h : k < p.length) : rd_T31 p (k : Int) = p[k] := by unfold rd_T31; rw [Int.toNat_natCast, List.getD_eq_getElem?_getD, List.getElem?_eq_getElem h]; rfl
theorem count_mem {p : List S31} {b : S31} (h : b ∈ p) : b.f2.length ≤ countP p := by
  induction p with
  | nil => cases h
  | cons a p ih =>
    simp only [countP]
    rcases List.mem_cons.1 h with rfl | h
    · omega
    · have := ih h; omega
def CheckPost (p : List S31) (W : World) (e : Ending) (W' : World) : Prop := ∃ c, e = .returned (.int .i64 c) ∧ (c = 0 ↔ okP p) ∧ Below W.heap.size W W'
theorem CheckPost.no {p : List S31} {W W' : World} {c : Int} (hc : c ≠ 0) (hn : ¬ okP p) (hb : Below W.heap.size W W') : CheckPost p W (.returned (.int .i64 c)) W' := ⟨c, rfl, Iff.intro (fun h => absurd h hc) (fun h => absurd h hn), hb⟩
set_option maxHeartbeats 4000000 in
theorem check_walk (p : List S31) (A : Option Addr) (c : Nat) (W : World) (hA : Kd.C k31 W A p.length p) (hc : p.length ≤ c) (hm : countP p ≤ 1099511627776) (hp : ∀ b ∈ p, b.f1 = []) (h1 : 1 ≤ p.length) (h4 : p.length ≤ 400) (hcnt : countP p ≤ 4000) :
    Calls Try.prog 72 #[.agg #[.slice A p.length c]] W fun e W' => CheckPost p W e W' := by
  have t1 : decide ((p.length : Int) < 1) = false := decide_eq_false (by omega)
  have t2 : decide ((400 : Int) < (p.length : Int)) = false := decide_eq_false (by omega)
  have t3 : decide ((4000 : Int) < (countP p : Int)) = false := decide_eq_false (by omega)
  have HA := Lib.hid (And.intro hA hc)
  have HP := Lib.hid hp
  have H14 := Lib.hid (And.intro h1 (And.intro h4 (And.intro hcnt hm)))
  clear hA hc hm hp h1 hcnt
  go_enter Try.func72, Try.ntmps72
  go_wp2_with fail
  obtain ⟨W1, hW1⟩ : ∃ W1, (W.alloc (.cells #[.slice A p.length c] 57)) = W1 := ⟨_, rfl⟩
  have hb1 : Below W.heap.size W W1 := hW1 ▸ (Below.refl _ _).alloc (Nat.le_refl _) _
  have hq : W1.heap[W.heap.size]? = some (.cells #[.slice A p.length c] 57 (0, 0)) := hW1 ▸ heap_alloc_new W _
  rw [hW1]
  refine (count_calls p A c W1 (Kd.C_below HA.out.1 hb1) HA.out.2 H14.out.2.2.2).mono ?_
  rintro e W2 ⟨rfl, hb2⟩
  have hq2 := (hb2.block _ (Array.getElem?_eq_some_iff.1 hq).1).trans hq
  have hb2 := below_two hb1 hb2
  have hc0 : W2.cell? ⟨W.heap.size, 0, none⟩ = some (.slice A p.length c) := by rw [cell_of_blk _ _ _ _ _ hq2]; rfl
  have HQ := Lib.hid (And.intro hq2 hb2)
  clear hb1 hq hq2 hb2 hW1
  have hmm := @run_makeMap Try.prog
  obtain ⟨W3, hW3⟩ : ∃ W3, W2.alloc (.map #[] 0) = W3 := ⟨_, rfl⟩
  have hb3 : Below W2.heap.size W2 W3 := hW3 ▸ (Below.refl _ _).alloc (Nat.le_refl _) _
  have hm3 : MapIs W3 W2.heap.size .i64 [] := hW3 ▸ MapIs.new W2 .i64
  have hq3 := (hb3.block _ (Array.getElem?_eq_some_iff.1 HQ.out.1).1).trans HQ.out.1
  have hc3 : W3.cell? ⟨W.heap.size, 0, none⟩ = some (.slice A p.length c) := by rw [cell_of_blk _ _ _ _ _ hq3]; rfl
  rw [← hW3] at hc3
  have HI := Lib.hid (And.intro hm3 (And.intro hq3 (below_two HQ.out.2 hb3)))
  have HW3 := Lib.hid hW3
  have hmp : Hid (W.heap.size < W2.heap.size) := (Array.getElem?_eq_some_iff.1 HQ.out.1).1
  clear hm3 hq3 hb3 hb2 hW3
  go_wp2
  rw [HW3.out]
  clear hmm hc3 HW3 hc0 HQ
  generalize W2.heap.size = mp at *
  go_loopw [32] (fun i wr => ∃ (k : Nat) (al : List (Int × Value)), i = .int .i64 (k : Int) ∧ Hid (k ≤ p.length ∧ LabelsAt wr mp ((p.take k).map S31.f0) al ∧ wr.heap[W.heap.size]? = some (.cells #[.slice A p.length c] 57 (0, 0)) ∧ Below W.heap.size W wr ∧ (∀ b ∈ p.take k, 0 ≤ b.f0 ∧ b.f0 < 100000) ∧ ((p.take k).map S31.f0).Nodup)) (fun i _ => p.length - (intOf i).toNat)
  case atStart => exact ⟨0, [], rfl, by omega, ⟨HI.out.1, fun x => by simp [getK]⟩, HI.out.2.1, HI.out.2.2, by simp, by simp⟩
  case round =>
    obtain ⟨k, al, rfl, HK⟩ := hrel
    by_cases hk : k < p.length
    · have HB := Lib.hid (And.intro HK.out.2.2.1 HK.out.2.2.2.1)
      obtain ⟨ad, A1, c1, A2, c2, e102, x0, x1, x2, x3, x4, x5, x6, _, _, _, _⟩ := at_T31 HA.out.1 (k : Int) (by omega) (by omega)
      cases e102
      rw [rd_mem hk] at x0 x1 x2 x3 x4 x5 x6
      obtain ⟨b, hb⟩ : ∃ b, p[k] = b := ⟨_, rfl⟩
      rw [hb] at x0 x1 x2 x3 x4 x5 x6
      rw [Int.toNat_natCast] at x0 x1 x2 x3 x4 x5 x6
      replace x0 := (HB.out.2.cell (World.block_lt_of_cell? _ _ x0)).trans x0
      replace x1 := (HB.out.2.cell (World.block_lt_of_cell? _ _ x1)).trans x1
      replace x2 := (HB.out.2.cell (World.block_lt_of_cell? _ _ x2)).trans x2
      replace x3 := (HB.out.2.cell (World.block_lt_of_cell? _ _ x3)).trans x3
      replace x4 := (HB.out.2.cell (World.block_lt_of_cell? _ _ x4)).trans x4
      replace x5 := (HB.out.2.cell (World.block_lt_of_cell? _ _ x5)).trans x5
      replace x6 := (HB.out.2.cell (World.block_lt_of_cell? _ _ x6)).trans x6
      have p1 : ((k : Int) < (p.length : Int)) = True := eq_true (by omega)
      have p2 : (0 ≤ (k : Int)) = True := eq_true (by omega)
      have HBB := Lib.hid hb
      clear hb
      by_cases hr : 0 ≤ b.f0 ∧ b.f0 < 100000
      · have r1 : decide (b.f0 < 0) = false := decide_eq_false (by omega)
        have r2 : decide (100000 ≤ b.f0) = false := decide_eq_false (by omega)
        have HR := Lib.hid hr
        clear hr
        go_upto_region 11 with (fail)
        refine wp_named fun X hX => ?_
        have hbX : Below wr.heap.size wr X := by
          rw [hX]
          repeat (refine Below.setCell ?_ (Nat.le_refl _) _)
          exact (Below.refl _ _).alloc (Nat.le_refl _) _
        have y0 : X.cell? ⟨wr.heap.size, 0, none⟩ = some (.int .i64 b.f0) := by rw [hX]; go_simp
        have HX := Lib.hid (And.intro (HK.out.2.1.later hbX) (And.intro ((hbX.block _ (Array.getElem?_eq_some_iff.1 HK.out.2.2.1).1).trans HK.out.2.2.1) (below_two HK.out.2.2.2.1 hbX)))
        clear hX hbX x0 x1 x2 x3 x4 x5 x6 r1 r2
        have hlk := HX.out.1.look b.f0
        by_cases hin : b.f0 ∈ (p.take k).map S31.f0
        · rw [decide_eq_true hin] at hlk
          have HN : Hid (¬ okP p) := fun h => by
            have h1 := h.nodup
            have h2 : p.map S31.f0 = (p.take k).map S31.f0 ++ (p.drop k).map S31.f0 := by rw [← List.map_append, List.take_append_drop]
            rw [h2, List.nodup_append] at h1
            exact h1.2.2 _ hin _ (by rw [List.drop_eq_getElem_cons hk, HBB.out]; simp) rfl
          clear hin
          go_wp2
          go_ret
          exact CheckPost.no (by decide) HN.out HX.out.2.2
        · rw [decide_eq_false hin] at hlk
          have HIN := Lib.hid hin
          clear hin
          obtain ⟨X2, hrun, hm2, ho2⟩ := run_updK (P := Try.prog) Try.underlying43 Try.underlying3 HX.out.1.map b.f0 (.bool true)
          have hnext : Hid (k + 1 ≤ p.length ∧ LabelsAt X2 mp ((p.take (k + 1)).map S31.f0) (updK al b.f0 (.bool true)) ∧ X2.heap[W.heap.size]? = some (.cells #[.slice (some ad) p.length c] 57 (0, 0)) ∧ Below W.heap.size W X2 ∧ (∀ b ∈ p.take (k + 1), 0 ≤ b.f0 ∧ b.f0 < 100000) ∧ ((p.take (k + 1)).map S31.f0).Nodup) := by
            have e1 : p.take (k + 1) = p.take k ++ [b] := take_snoc' p k b (by rw [List.getElem?_eq_getElem hk, HBB.out])
            refine ⟨by omega, ⟨hm2, fun x => ?_⟩, (ho2.block _ (Array.getElem?_eq_some_iff.1 HX.out.2.1).1 (by have := hmp.out; omega)).trans HX.out.2.1, HX.out.2.2.trans (ho2.below (by have := HX.out.2.2.size; omega) (fun j hj e => by have := hmp.out; omega)), ?_, ?_⟩
            · rw [getK_upd, e1, List.map_append, List.map_singleton]
              by_cases hx : b.f0 = x
              · rw [if_pos hx]; simp [hx]
              · rw [if_neg hx, HX.out.1.get]
                have : ¬ x = b.f0 := fun e => hx e.symm
                simp [this]
            · rw [e1]; intro b' hb'
              rcases List.mem_append.1 hb' with h | h
              · exact HK.out.2.2.2.2.1 b' h
              · obtain rfl := List.mem_singleton.1 h; exact HR.out
            · rw [e1, List.map_append, List.map_singleton, List.nodup_append]
              refine ⟨HK.out.2.2.2.2.2, by simp, fun a ha b' hb' e => ?_⟩
              obtain rfl := List.mem_singleton.1 hb'
              exact HIN.out (e ▸ ha)
          clear hm2 ho2
          go_wp2
          go_roundw
          case rel => exact ⟨k + 1, _, by go_num, hnext⟩
          case measure => simp [intOf]; omega
      · have HN : Hid (¬ okP p) := fun h => hr (h.range b (by rw [← HBB.out]; exact List.getElem_mem hk))
        by_cases h0 : b.f0 < 0
        · have r1 : decide (b.f0 < 0) = true := decide_eq_true h0
          clear hr
          go_wp2
          go_ret
          exact CheckPost.no (by decide) HN.out (HB.out.2.trans (by
            repeat (refine Below.setCell ?_ (by exact HB.out.2.size) _)
            exact (Below.refl _ _).alloc HB.out.2.size _))
        · have r1 : decide (b.f0 < 0) = false := decide_eq_false h0
          have r2 : decide (100000 ≤ b.f0) = true := decide_eq_true (by omega)
          clear hr
          go_wp2
          go_ret
          exact CheckPost.no (by decide) HN.out (HB.out.2.trans (by
            repeat (refine Below.setCell ?_ (by exact HB.out.2.size) _)
            exact (Below.refl _ _).alloc HB.out.2.size _))
    · obtain rfl : k = p.length := by have := HK.out.1; omega
      have hk' : ((p.length : Int) < (p.length : Int)) = False := eq_false (by omega)
      rw [List.take_of_length_le (Nat.le_refl _)] at HK
      have hcc : wr.cell? ⟨W.heap.size, 0, none⟩ = some (.slice A p.length c) := by rw [cell_of_blk _ _ _ _ _ HK.out.2.2.1]; rfl
      clear hk
      have HL := Lib.hid (And.intro HK.out.2.2.2.2.1 HK.out.2.2.2.2.2)
      have HG := Lib.hid (And.intro HK.out.2.1 (And.intro HK.out.2.2.1 HK.out.2.2.2.1))
      clear HK
      generalize hL : p.map S31.f0 = L at *
      have HLL := Lib.hid hL
      clear hL
      obtain ⟨wo, rfl⟩ : ∃ wo : World, wo = wr := ⟨_, rfl⟩
      go_wp2
      clear hcc
      go_loopw [55] (fun i wr => ∃ k : Nat, i = .int .i64 (k : Int) ∧ Hid (k ≤ p.length ∧ (∀ b ∈ p.take k, okB L b) ∧ LabelsAt wr mp L al ∧ wr.heap[W.heap.size]? = some (.cells #[.slice A p.length c] 57 (0, 0)) ∧ Below W.heap.size W wr)) (fun i _ => p.length - (intOf i).toNat)
      case atStart => exact ⟨0, rfl, by omega, by simp, HG.out⟩
      case round =>
        obtain ⟨k, rfl, HK⟩ := hrel
        by_cases hk : k < p.length
        · have HB := Lib.hid (And.intro HK.out.2.2.2.1 HK.out.2.2.2.2)
          obtain ⟨ad, A1, c1, A2, c2, e102, x0, x1, x2, x3, x4, x5, x6, _, _, _, hi2⟩ := at_T31 HA.out.1 (k : Int) (by omega) (by omega)
          cases e102
          rw [rd_mem hk] at x0 x1 x2 x3 x4 x5 x6 hi2
          obtain ⟨b, hb⟩ : ∃ b, p[k] = b := ⟨_, rfl⟩
          rw [hb] at x0 x1 x2 x3 x4 x5 x6 hi2
          have hbm : b ∈ p := by rw [← hb]; exact List.getElem_mem hk
          have hb1 := HP.out b hbm
          have hcb : b.f2.length ≤ 4000 := Nat.le_trans (count_mem hbm) H14.out.2.2.1
          have HB1 := Lib.hid hb1
          rw [hb1] at x1
          simp only [List.length_nil] at x1
          rw [Int.toNat_natCast] at x0 x1 x2 x3 x4 x5 x6
          replace x0 := (HB.out.2.cell (World.block_lt_of_cell? _ _ x0)).trans x0
          replace x1 := (HB.out.2.cell (World.block_lt_of_cell? _ _ x1)).trans x1
          replace x2 := (HB.out.2.cell (World.block_lt_of_cell? _ _ x2)).trans x2
          replace x3 := (HB.out.2.cell (World.block_lt_of_cell? _ _ x3)).trans x3
          replace x4 := (HB.out.2.cell (World.block_lt_of_cell? _ _ x4)).trans x4
          replace x5 := (HB.out.2.cell (World.block_lt_of_cell? _ _ x5)).trans x5
          replace x6 := (HB.out.2.cell (World.block_lt_of_cell? _ _ x6)).trans x6
          have p1 : ((k : Int) < (p.length : Int)) = True := eq_true (by omega)
          have p2 : (0 ≤ (k : Int)) = True := eq_true (by omega)
          have HBB := Lib.hid hb
          have HBM := Lib.hid hbm
          have HI2 := Lib.hid hi2
          clear hb hbm hb1 hi2
          go_upto_region 18 with (fail)
          refine wp_named fun X hX => ?_
          have hbX : Below wr.heap.size wr X := by
            rw [hX]
            repeat (refine Below.setCell ?_ (Nat.le_refl _) _)
            exact (Below.refl _ _).alloc (Nat.le_refl _) _
          have y1 : X.cell? ⟨wr.heap.size, 1, none⟩ = some (.slice A1 0 c1) := by rw [hX]; go_simp
          have y2 : X.cell? ⟨wr.heap.size, 2, none⟩ = some (.slice A2 b.f2.length c2) := by rw [hX]; go_simp
          have y3 : X.cell? ⟨wr.heap.size, 3, none⟩ = some (.int .u8 b.f3.f0) := by rw [hX]; go_simp
          have y4 : X.cell? ⟨wr.heap.size, 4, none⟩ = some (.int .i64 b.f3.f1) := by rw [hX]; go_simp
          have y5 : X.cell? ⟨wr.heap.size, 5, none⟩ = some (.int .i64 b.f3.f2) := by rw [hX]; go_simp
          have y6 : X.cell? ⟨wr.heap.size, 6, none⟩ = some (.int .i64 b.f3.f3) := by rw [hX]; go_simp
          have HX := Lib.hid (And.intro (HK.out.2.2.1.later hbX) (And.intro ((hbX.block _ (Array.getElem?_eq_some_iff.1 HK.out.2.2.2.1).1).trans HK.out.2.2.2.1) (below_two HK.out.2.2.2.2 hbX)))
          have HY := Lib.hid (And.intro y3 (And.intro y4 (And.intro y5 y6)))
          clear hX hbX x0 x1 x2 x3 x4 x5 x6 y3 y4 y5 y6
          generalize wr.heap.size = q at *
          go_wp2
          go_loop [62] (fun i => i = .int .i64 0) (fun _ => 0)
          case atStart => rfl
          case round =>
            obtain rfl := hrel
            go_wp2
            clear y1 y2
            go_loopw [76] (fun i wi => ∃ j : Nat, i = .int .i64 (j : Int) ∧ Hid (j ≤ b.f2.length ∧ (∀ x ∈ b.f2.take j, okI x) ∧ Below X.heap.size X wi)) (fun i _ => b.f2.length - (intOf i).toNat)
            case atStart => exact ⟨0, rfl, by omega, by simp, Below.refl _ _⟩
            case round =>
              obtain ⟨j, rfl, HJ⟩ := hrel
              by_cases hj : j < b.f2.length
              · obtain ⟨ad2, e103, z0, z1, z2, z3, z4, z5, z6⟩ := at_T38 HI2.out (j : Int) (by omega) (by omega)
                cases e103
                have hxr : rd_T38 b.f2 (j : Int) = b.f2[j] := by unfold rd_T38; rw [Int.toNat_natCast, List.getD_eq_getElem?_getD, List.getElem?_eq_getElem hj]; rfl
                rw [hxr] at z0 z1 z2 z3 z4 z5 z6
                obtain ⟨x, hx⟩ : ∃ x, b.f2[j] = x := ⟨_, rfl⟩
                rw [hx] at z0 z1 z2 z3 z4 z5 z6
                rw [Int.toNat_natCast] at z0 z1 z2 z3 z4 z5 z6
                have HXX := Lib.hid hx
                clear hx hxr
                have hbw : Below W.heap.size W wr := below_two HX.out.2.2 HJ.out.2.2
                replace z0 := (hbw.cell (World.block_lt_of_cell? _ _ z0)).trans z0
                replace z1 := (hbw.cell (World.block_lt_of_cell? _ _ z1)).trans z1
                replace z2 := (hbw.cell (World.block_lt_of_cell? _ _ z2)).trans z2
                replace z3 := (hbw.cell (World.block_lt_of_cell? _ _ z3)).trans z3
                replace z4 := (hbw.cell (World.block_lt_of_cell? _ _ z4)).trans z4
                replace z5 := (hbw.cell (World.block_lt_of_cell? _ _ z5)).trans z5
                replace z6 := (hbw.cell (World.block_lt_of_cell? _ _ z6)).trans z6
                have p3 : ((j : Int) < (b.f2.length : Int)) = True := eq_true (by omega)
                have p4 : (0 ≤ (j : Int)) = True := eq_true (by omega)
                clear hbw
                go_upto_region 28 with (fail)
                refine wp_named fun Y hY => ?_
                have hbY : Below wr.heap.size wr Y := by
                  rw [hY]
                  repeat (refine Below.setCell ?_ (Nat.le_refl _) _)
                  exact (Below.refl _ _).alloc (Nat.le_refl _) _
                have v0 : Y.cell? ⟨wr.heap.size, 0, none⟩ = some (.int .u8 x.f0) := by rw [hY]; go_simp
                have v1 : Y.cell? ⟨wr.heap.size, 1, none⟩ = some (.int .u8 x.f1) := by rw [hY]; go_simp
                have v2 : Y.cell? ⟨wr.heap.size, 2, none⟩ = some (.int .i64 x.f2) := by rw [hY]; go_simp
                have v3 : Y.cell? ⟨wr.heap.size, 3, none⟩ = some (.int .i64 x.f3) := by rw [hY]; go_simp
                have v4 : Y.cell? ⟨wr.heap.size, 4, none⟩ = some (.int .i64 x.f4) := by rw [hY]; go_simp
                have v5 : Y.cell? ⟨wr.heap.size, 5, none⟩ = some (.int .i64 x.f5) := by rw [hY]; go_simp
                have v6 : Y.cell? ⟨wr.heap.size, 6, none⟩ = some (.int .i64 x.f6) := by rw [hY]; go_simp
                have HBY := Lib.hid (below_two HJ.out.2.2 hbY)
                clear hY hbY z0 z1 z2 z3 z4 z5 z6
                generalize wr.heap.size = q2 at *
                go_wp2_with fail
                refine (instr_check_calls x _).mono ?_
                rintro e w5 ⟨cc, rfl, hcc, hb5⟩
                have HB5 := Lib.hid (below_two HBY.out hb5)
                clear hb5 v0 v1 v2 v3 v4 v5 v6
                by_cases hok : cc = 0
                · have HOK := Lib.hid (hcc.1 hok)
                  subst hok
                  clear hcc
                  go_wp2
                  go_roundw
                  case rel => exact ⟨j + 1, by go_num, by omega, fun y hy => by
                    rw [take_snoc' b.f2 j x (by rw [List.getElem?_eq_getElem hj, HXX.out])] at hy
                    rcases List.mem_append.1 hy with h | h
                    · exact HJ.out.2.1 y h
                    · obtain rfl := List.mem_singleton.1 h; exact HOK.out, HB5.out⟩
                  case measure => simp [intOf]; omega
                · have hcn : (cc != 0) = true := by rw [bne_iff_ne]; exact hok
                  have HN : Hid (¬ okP p) := fun h => hok (hcc.2 ((h.blocks b HBM.out).2.1 x (by rw [← HXX.out]; exact List.getElem_mem hj)))
                  have HCC := Lib.hid hok
                  clear hcc hok
                  go_wp2
                  go_ret
                  exact CheckPost.no HCC.out HN.out (below_two HX.out.2.2 HB5.out)
              · obtain rfl : j = b.f2.length := by have := HJ.out.1; omega
                have hj' : ((b.f2.length : Int) < (b.f2.length : Int)) = False := eq_false (by omega)
                have hJ := HJ.out
                rw [List.take_of_length_le (Nat.le_refl _)] at hJ
                obtain ⟨y3, y4, y5, y6⟩ := HY.out
                replace y3 := (hJ.2.2.cell (World.block_lt_of_cell? _ _ y3)).trans y3
                replace y4 := (hJ.2.2.cell (World.block_lt_of_cell? _ _ y4)).trans y4
                replace y5 := (hJ.2.2.cell (World.block_lt_of_cell? _ _ y5)).trans y5
                replace y6 := (hJ.2.2.cell (World.block_lt_of_cell? _ _ y6)).trans y6
                have HLA := Lib.hid (And.intro (HX.out.1.later hJ.2.2) (And.intro ((hJ.2.2.block _ (Array.getElem?_eq_some_iff.1 HX.out.2.1).1).trans HX.out.2.1) (below_two HX.out.2.2 hJ.2.2)))
                have HOI := Lib.hid hJ.2.1
                clear hJ HJ hj
                go_wp2_with fail
                refine (last_check b.f3 L _ mp al HLA.out.1).mono ?_
                rintro e w6 ⟨cc, rfl, hcc, hb6⟩
                have HB6 := Lib.hid (And.intro (HLA.out.1.later hb6) (And.intro ((hb6.block _ (Array.getElem?_eq_some_iff.1 HLA.out.2.1).1).trans HLA.out.2.1) (below_two HLA.out.2.2 hb6)))
                clear hb6 y3 y4 y5 y6
                by_cases hok : cc = 0
                · have HOK := Lib.hid (hcc.1 hok)
                  subst hok
                  clear hcc
                  go_wp2
                  go_roundw
                  case rel => exact ⟨k + 1, by go_num, by omega, fun y hy => by
                    rw [take_snoc' p k b (by rw [List.getElem?_eq_getElem hk, HBB.out])] at hy
                    rcases List.mem_append.1 hy with h | h
                    · exact HK.out.2.1 y h
                    · obtain rfl := List.mem_singleton.1 h
                      exact ⟨(fun f hf => by rw [HB1.out] at hf; cases hf), HOI.out, HOK.out⟩, HB6.out⟩
                  case measure => simp [intOf]; omega
                · have hcn : (cc != 0) = true := by rw [bne_iff_ne]; exact hok
                  have HN : Hid (¬ okP p) := fun h => hok (hcc.2 (by have := (h.blocks b HBM.out).2.2; rw [HLL.out] at this; exact this))
                  have HCC := Lib.hid hok
                  clear hcc hok
                  go_wp2
                  go_ret
                  exact CheckPost.no HCC.out HN.out HB6.out.2.2
        · obtain rfl : k = p.length := by have := HK.out.1; omega
          have hk' : ((p.length : Int) < (p.length : Int)) = False := eq_false (by omega)
          clear hk
          go_wp2
          go_ret
          refine ⟨0, rfl, Iff.intro (fun _ => ⟨H14.out.1, H14.out.2.1, H14.out.2.2.1, ?_, ?_, ?_⟩) (fun _ => rfl), HK.out.2.2.2.2⟩
          · exact HL.out.1
          · rw [HLL.out]; exact HL.out.2
          · have := HK.out.2.1
            rw [List.take_of_length_le (Nat.le_refl _)] at this
            rw [HLL.out]; exact this
/-- Program.Check, of any program without phis. -/
theorem check_calls (p : List S31) (A : Option Addr) (c : Nat) (W : World) (hA : Kd.C k31 W A p.length p) (hc : p.length ≤ c) (hm : countP p ≤ 1099511627776) (hp : ∀ b ∈ p, b.f1 = []) :
    Calls Try.prog 72 #[.agg #[.slice A p.length c]] W fun e W' => CheckPost p W e W' := by
  by_cases h1 : 1 ≤ p.length
  · by_cases h4 : p.length ≤ 400
    · by_cases hcnt : countP p ≤ 4000
      · exact check_walk p A c W hA hc hm hp h1 h4 hcnt
      · have t1 : decide ((p.length : Int) < 1) = false := decide_eq_false (by omega)
        have t2 : decide ((400 : Int) < (p.length : Int)) = false := decide_eq_false (by omega)
        have t3 : decide ((4000 : Int) < (countP p : Int)) = true := decide_eq_true (by omega)
        have HN : Hid (¬ okP p) := fun h => hcnt h.count
        have HA := Lib.hid (And.intro hA (And.intro hc hm))
        clear hA hc hm hp h1 h4 hcnt
        go_enter Try.func72, Try.ntmps72
        go_wp2_with fail
        have hb1 : Below W.heap.size W (W.alloc (.cells #[.slice A p.length c] 57)) := (Below.refl _ _).alloc (Nat.le_refl _) _
        refine (count_calls p A c _ (Kd.C_below HA.out.1 hb1) HA.out.2.1 HA.out.2.2).mono ?_
        rintro e W2 ⟨rfl, hb2⟩
        have HB := Lib.hid (below_two hb1 hb2)
        clear hb1 hb2
        go_wp2
        go_ret
        exact CheckPost.no (by decide) HN.out HB.out
    · have t1 : decide ((p.length : Int) < 1) = false := decide_eq_false (by omega)
      have t2 : decide ((400 : Int) < (p.length : Int)) = true := decide_eq_true (by omega)
      have HN : Hid (¬ okP p) := fun h => h4 h.most
      clear hA hc hm hp h1 h4
      go_enter Try.func72, Try.ntmps72
      go_wp2
      go_ret
      exact CheckPost.no (by decide) HN.out ((Below.refl _ _).alloc (Nat.le_refl _) _)
  · have t1 : decide ((p.length : Int) < 1) = true := decide_eq_true (by omega)
    have HN : Hid (¬ okP p) := fun h => h1 h.one
    clear hA hc hm hp h1
    go_enter Try.func72, Try.ntmps72
    go_wp2
    go_ret
    exact CheckPost.no (by decide) HN.out ((Below.refl _ _).alloc (Nat.le_refl _) _)
end Go.Proofs.Ytffnkbicbfjnpaa
