/- The document's answer, further ops. Condition: the numbers' range where it is named. -/
import Derived.Test.YteojcdpmlhlfaaaDoorRdo2
import Derived.LoopTactic
namespace Go.Proofs.YteojcdpmlhlfaaaDoor
open Go.RowKit
/-- While the bits of two numbers are put together. -/
def Bit64 (X : World) (qz : Nat) (R : Int) (k : Nat) (wr : World) : Prop := wr.heap[qz]? = some (.cells (arrC (fun j => if j < k then ib R j else 0)) 41 (0, 0)) ∧ Only (fun j => j = qz) X wr
theorem Bit64.step {X wr : World} {qz : Nat} {R : Int} {k : Nat} (h : Bit64 X qz R k wr) (v : Int) (hv : ib R k = v) : Bit64 X qz R (k + 1) (wr.setCell ⟨qz, k, none⟩ (.int .i64 v)) := by
  refine ⟨?_, h.2.trans (Only.setCell _ _ _) (fun _ _ e => e)⟩
  rw [setC h.1 k v, arrC_congr (f := fun j => if j = k then v else if j < k then ib R j else 0) (g := fun j => if j < k + 1 then ib R j else 0) (fun j _ => ?_)]
  by_cases e : j = k
  · subst e; simp [hv]
  · have e2 : j < k + 1 ↔ j < k := by omega
    simp [e, e2]
theorem Bit64.skip {X wr : World} {qz : Nat} {R : Int} {k : Nat} (h : Bit64 X qz R k wr) (hv : ib R k = 0) : Bit64 X qz R (k + 1) wr := by
  refine ⟨?_, h.2⟩
  rw [h.1, arrC_congr (f := fun j => if j < k then ib R j else 0) (g := fun j => if j < k + 1 then ib R j else 0) (fun j _ => ?_)]
  by_cases e : j = k
  · subst e; simp [hv]
  · have e2 : j < k + 1 ↔ j < k := by omega
    simp [e2]
theorem Bit64.drew {X wr : World} {qz : Nat} {R : Int} {k : Nat} (h : Bit64 X qz R k wr) (m : Nat) : Bit64 X qz R k (wr.drewN m) := ⟨h.1, h.2.trans (Only.drewN (fun _ => False) _ _) (fun _ _ e => e.elim)⟩
theorem Bit64.fin {X wr : World} {qz : Nat} {R : Int} (h : Bit64 X qz R 64 wr) : wr.heap[qz]? = some (.cells (arrC (ib R)) 41 (0, 0)) := by
  rw [h.1, arrC_congr (f := fun j => if j < 64 then ib R j else 0) (g := ib R) (fun j hj => by simp [hj])]
set_option maxRecDepth 100000 in
set_option maxHeartbeats 4000000 in
theorem rdo_and (a b : Int) (w : World) : Calls Tryd.prog 10 #[.int .i64 5, .int .i64 a, .int .i64 b] w (RdoPost 5 a b w) := by
  go_enter Tryd.func10, Tryd.ntmps10
  go_wp2_with fail
  refine (bits_calls a w).mono ?_
  rintro e W1 ⟨rfl, hb1⟩
  have H1 := Lib.hid hb1
  clear hb1
  go_upto_region 2 with (first | (refine wpList_store_row rfl 41 _ _ rfl W1.heap.size _ rfl rfl 41 (arrC (fun _ => 0)) (heap_alloc_new W1 _) (size64 _) (by rw [arrC_size, arrC_size]) (one64 _) ?_) | fail)
  generalize hX1 : World.setRow _ _ _ = X1
  obtain ⟨x1, x2⟩ := laidC hX1
  obtain ⟨qx, hqx⟩ : ∃ q, W1.heap.size = q := ⟨_, rfl⟩
  have HX1 := Lib.hid (And.intro (hqx ▸ x1) (below_two' H1.out x2))
  rw [hqx]
  clear hX1 x1 x2 hqx H1
  go_wp2_with fail
  refine (bits_calls b X1).mono ?_
  rintro e W2 ⟨rfl, hb2⟩
  have H2 := Lib.hid (And.intro ((hb2.block qx (lt_blkD HX1.out.1)).trans HX1.out.1) (below_two' HX1.out.2 hb2))
  clear hb2 HX1
  go_upto_region 3 with (first | (refine wpList_store_row rfl 41 _ _ rfl W2.heap.size _ rfl rfl 41 (arrC (fun _ => 0)) (heap_alloc_new W2 _) (size64 _) (by rw [arrC_size, arrC_size]) (one64 _) ?_) | fail)
  generalize hX2 : World.setRow _ _ _ = X2
  obtain ⟨x1, x2⟩ := laidC hX2
  obtain ⟨qy, hqy⟩ : ∃ q, W2.heap.size = q := ⟨_, rfl⟩
  have HX2 := Lib.hid (And.intro ((x2.block qx (lt_blkD H2.out.1)).trans H2.out.1) (And.intro (hqy ▸ x1) (below_two' H2.out.2 x2)))
  rw [hqy]
  clear hX2 x1 x2 hqy H2
  go_upto_region 4 with (fail)
  generalize hX3 : World.alloc _ _ = X3
  obtain ⟨x1, x2⟩ := zeroC hX3
  obtain ⟨qz, hqz⟩ : ∃ q, X2.heap.size = q := ⟨_, rfl⟩
  have HX := Lib.hid (And.intro ((x2.block qx (lt_blkD HX2.out.1)).trans HX2.out.1) (And.intro ((x2.block qy (lt_blkD HX2.out.2.1)).trans HX2.out.2.1) (And.intro (hqz ▸ x1) (And.intro (below_two' HX2.out.2.2 x2) (And.intro (hqz ▸ lt_blkD HX2.out.1) (And.intro (hqz ▸ lt_blkD HX2.out.2.1) (hqz ▸ HX2.out.2.2.size)))))))
  rw [hqz]
  clear hX3 x1 x2 hqz HX2
  generalize X3 = X at *
  go_wp2_with fail
  obtain ⟨R, hR⟩ : ∃ R, bits .and .i64 a b = R := ⟨_, rfl⟩
  have HR := Lib.hid hR
  clear hR
  go_loopw [18] (fun i wr => ∃ k : Nat, i = .int .i64 (k : Int) ∧ Hid (k ≤ 64 ∧ Bit64 X qz R k wr)) (fun v _ => 64 - (intOf v).toNat)
  case atStart => exact ⟨0, rfl, Lib.hid ⟨by omega, by simpa using HX.out.2.2.1, Only.refl _ _⟩⟩
  case round =>
    obtain ⟨k, rfl, HK⟩ := hrel
    by_cases hk : k < 64
    · have pp : ((k : Int) < 64) = True := eq_true (by omega)
      have k0 : 0 ≤ (k : Int) := by omega
      have k1 : (k : Int) < 64 := by omega
      have cx := cellC ((HK.out.2.2.block qx (lt_blkD HX.out.1) (by have := HX.out.2.2.2.2.1; omega)).trans HX.out.1) hk
      have cy := cellC ((HK.out.2.2.block qy (lt_blkD HX.out.2.1) (by have := HX.out.2.2.2.2.2.1; omega)).trans HX.out.2.1) hk
      have hib := ib_and a b k hk
      rw [HR.out] at hib
      rcases ib_two a k with ea | ea <;> rcases ib_two b k with eb | eb <;> rw [ea] at cx <;> rw [eb] at cy <;> rw [ea, eb] at hib
      all_goals
        have HI := Lib.hid hib
        clear ea eb hib
        go_wp2_with fail
        go_quiet (fail)
        have HD := Lib.hid (HK.out.2.drew nq)
        clear cx cy
        generalize wr.drewN nq = W2 at *
        have cz := cellC HD.out.1 hk
        have fz := frozenC HD.out.1 k
        go_wp2_with fail
        go_roundw
        case rel => exact ⟨k + 1, by go_num, Lib.hid ⟨by omega, by first | exact HD.out.step _ (by rw [HI.out]; decide) | exact HD.out.skip (by rw [HI.out]; decide)⟩⟩
        case measure => simp [intOf]; omega
    · obtain rfl : k = 64 := by have := HK.out.1; omega
      have hb : Below w.heap.size w wr := HX.out.2.2.2.1.trans (HK.out.2.2.below HX.out.2.2.2.1.size (fun j hj e => by have := HX.out.2.2.2.2.2.2; omega))
      have HZ := Lib.hid (And.intro HK.out.2.fin (And.intro hb (show wrap64 (inum (ib R) 64) = doV 5 a b by rw [number_ib (ib R) R (fun _ _ => rfl), ← HR.out, bits_range]; rfl)))
      clear hb
      go_wp2_with (first | (refine wpList_load_row rfl 41 _ rfl qz rfl 41 _ (0, 0) _ HZ.out.1 Tryd.underlying41 rfl (size64 _) ?_) | fail)
      refine (number_calls (ib R) (fun i _ => ib_two R i) wr).mono ?_
      rintro e W9 ⟨rfl, hb9⟩
      rw [HZ.out.2.2]
      have HB9 := Lib.hid (below_two' HZ.out.2.1 hb9)
      clear hb9
      go_wp2_with fail
      go_ret2
      exact ⟨rfl, HB9.out⟩
set_option maxRecDepth 100000 in
set_option maxHeartbeats 4000000 in
theorem rdo_or (a b : Int) (w : World) : Calls Tryd.prog 10 #[.int .i64 6, .int .i64 a, .int .i64 b] w (RdoPost 6 a b w) := by
  go_enter Tryd.func10, Tryd.ntmps10
  go_wp2_with fail
  refine (bits_calls a w).mono ?_
  rintro e W1 ⟨rfl, hb1⟩
  have H1 := Lib.hid hb1
  clear hb1
  go_upto_region 2 with (first | (refine wpList_store_row rfl 41 _ _ rfl W1.heap.size _ rfl rfl 41 (arrC (fun _ => 0)) (heap_alloc_new W1 _) (size64 _) (by rw [arrC_size, arrC_size]) (one64 _) ?_) | fail)
  generalize hX1 : World.setRow _ _ _ = X1
  obtain ⟨x1, x2⟩ := laidC hX1
  obtain ⟨qx, hqx⟩ : ∃ q, W1.heap.size = q := ⟨_, rfl⟩
  have HX1 := Lib.hid (And.intro (hqx ▸ x1) (below_two' H1.out x2))
  rw [hqx]
  clear hX1 x1 x2 hqx H1
  go_wp2_with fail
  refine (bits_calls b X1).mono ?_
  rintro e W2 ⟨rfl, hb2⟩
  have H2 := Lib.hid (And.intro ((hb2.block qx (lt_blkD HX1.out.1)).trans HX1.out.1) (below_two' HX1.out.2 hb2))
  clear hb2 HX1
  go_upto_region 3 with (first | (refine wpList_store_row rfl 41 _ _ rfl W2.heap.size _ rfl rfl 41 (arrC (fun _ => 0)) (heap_alloc_new W2 _) (size64 _) (by rw [arrC_size, arrC_size]) (one64 _) ?_) | fail)
  generalize hX2 : World.setRow _ _ _ = X2
  obtain ⟨x1, x2⟩ := laidC hX2
  obtain ⟨qy, hqy⟩ : ∃ q, W2.heap.size = q := ⟨_, rfl⟩
  have HX2 := Lib.hid (And.intro ((x2.block qx (lt_blkD H2.out.1)).trans H2.out.1) (And.intro (hqy ▸ x1) (below_two' H2.out.2 x2)))
  rw [hqy]
  clear hX2 x1 x2 hqy H2
  go_upto_region 4 with (fail)
  generalize hX3 : World.alloc _ _ = X3
  obtain ⟨x1, x2⟩ := zeroC hX3
  obtain ⟨qz, hqz⟩ : ∃ q, X2.heap.size = q := ⟨_, rfl⟩
  have HX := Lib.hid (And.intro ((x2.block qx (lt_blkD HX2.out.1)).trans HX2.out.1) (And.intro ((x2.block qy (lt_blkD HX2.out.2.1)).trans HX2.out.2.1) (And.intro (hqz ▸ x1) (And.intro (below_two' HX2.out.2.2 x2) (And.intro (hqz ▸ lt_blkD HX2.out.1) (And.intro (hqz ▸ lt_blkD HX2.out.2.1) (hqz ▸ HX2.out.2.2.size)))))))
  rw [hqz]
  clear hX3 x1 x2 hqz HX2
  generalize X3 = X at *
  go_wp2_with fail
  obtain ⟨R, hR⟩ : ∃ R, bits .or .i64 a b = R := ⟨_, rfl⟩
  have HR := Lib.hid hR
  clear hR
  go_loopw [18] (fun i wr => ∃ k : Nat, i = .int .i64 (k : Int) ∧ Hid (k ≤ 64 ∧ Bit64 X qz R k wr)) (fun v _ => 64 - (intOf v).toNat)
  case atStart => exact ⟨0, rfl, Lib.hid ⟨by omega, by simpa using HX.out.2.2.1, Only.refl _ _⟩⟩
  case round =>
    obtain ⟨k, rfl, HK⟩ := hrel
    by_cases hk : k < 64
    · have pp : ((k : Int) < 64) = True := eq_true (by omega)
      have k0 : 0 ≤ (k : Int) := by omega
      have k1 : (k : Int) < 64 := by omega
      have cx := cellC ((HK.out.2.2.block qx (lt_blkD HX.out.1) (by have := HX.out.2.2.2.2.1; omega)).trans HX.out.1) hk
      have cy := cellC ((HK.out.2.2.block qy (lt_blkD HX.out.2.1) (by have := HX.out.2.2.2.2.2.1; omega)).trans HX.out.2.1) hk
      have hib := ib_or a b k hk
      rw [HR.out] at hib
      rcases ib_two a k with ea | ea <;> rcases ib_two b k with eb | eb <;> rw [ea] at cx <;> rw [eb] at cy <;> rw [ea, eb] at hib
      all_goals
        have HI := Lib.hid hib
        clear ea eb hib
        go_wp2_with fail
        go_quiet (fail)
        have HD := Lib.hid (HK.out.2.drew nq)
        clear cx cy
        generalize wr.drewN nq = W2 at *
        have cz := cellC HD.out.1 hk
        have fz := frozenC HD.out.1 k
        go_wp2_with fail
        go_roundw
        case rel => exact ⟨k + 1, by go_num, Lib.hid ⟨by omega, by first | exact HD.out.step _ (by rw [HI.out]; decide) | exact HD.out.skip (by rw [HI.out]; decide)⟩⟩
        case measure => simp [intOf]; omega
    · obtain rfl : k = 64 := by have := HK.out.1; omega
      have hb : Below w.heap.size w wr := HX.out.2.2.2.1.trans (HK.out.2.2.below HX.out.2.2.2.1.size (fun j hj e => by have := HX.out.2.2.2.2.2.2; omega))
      have HZ := Lib.hid (And.intro HK.out.2.fin (And.intro hb (show wrap64 (inum (ib R) 64) = doV 6 a b by rw [number_ib (ib R) R (fun _ _ => rfl), ← HR.out, bits_range]; rfl)))
      clear hb
      go_wp2_with (first | (refine wpList_load_row rfl 41 _ rfl qz rfl 41 _ (0, 0) _ HZ.out.1 Tryd.underlying41 rfl (size64 _) ?_) | fail)
      refine (number_calls (ib R) (fun i _ => ib_two R i) wr).mono ?_
      rintro e W9 ⟨rfl, hb9⟩
      rw [HZ.out.2.2]
      have HB9 := Lib.hid (below_two' HZ.out.2.1 hb9)
      clear hb9
      go_wp2_with fail
      go_ret2
      exact ⟨rfl, HB9.out⟩
set_option maxRecDepth 100000 in
set_option maxHeartbeats 4000000 in
theorem rdo_xor (a b : Int) (w : World) : Calls Tryd.prog 10 #[.int .i64 7, .int .i64 a, .int .i64 b] w (RdoPost 7 a b w) := by
  go_enter Tryd.func10, Tryd.ntmps10
  go_wp2_with fail
  refine (bits_calls a w).mono ?_
  rintro e W1 ⟨rfl, hb1⟩
  have H1 := Lib.hid hb1
  clear hb1
  go_upto_region 2 with (first | (refine wpList_store_row rfl 41 _ _ rfl W1.heap.size _ rfl rfl 41 (arrC (fun _ => 0)) (heap_alloc_new W1 _) (size64 _) (by rw [arrC_size, arrC_size]) (one64 _) ?_) | fail)
  generalize hX1 : World.setRow _ _ _ = X1
  obtain ⟨x1, x2⟩ := laidC hX1
  obtain ⟨qx, hqx⟩ : ∃ q, W1.heap.size = q := ⟨_, rfl⟩
  have HX1 := Lib.hid (And.intro (hqx ▸ x1) (below_two' H1.out x2))
  rw [hqx]
  clear hX1 x1 x2 hqx H1
  go_wp2_with fail
  refine (bits_calls b X1).mono ?_
  rintro e W2 ⟨rfl, hb2⟩
  have H2 := Lib.hid (And.intro ((hb2.block qx (lt_blkD HX1.out.1)).trans HX1.out.1) (below_two' HX1.out.2 hb2))
  clear hb2 HX1
  go_upto_region 3 with (first | (refine wpList_store_row rfl 41 _ _ rfl W2.heap.size _ rfl rfl 41 (arrC (fun _ => 0)) (heap_alloc_new W2 _) (size64 _) (by rw [arrC_size, arrC_size]) (one64 _) ?_) | fail)
  generalize hX2 : World.setRow _ _ _ = X2
  obtain ⟨x1, x2⟩ := laidC hX2
  obtain ⟨qy, hqy⟩ : ∃ q, W2.heap.size = q := ⟨_, rfl⟩
  have HX2 := Lib.hid (And.intro ((x2.block qx (lt_blkD H2.out.1)).trans H2.out.1) (And.intro (hqy ▸ x1) (below_two' H2.out.2 x2)))
  rw [hqy]
  clear hX2 x1 x2 hqy H2
  go_upto_region 4 with (fail)
  generalize hX3 : World.alloc _ _ = X3
  obtain ⟨x1, x2⟩ := zeroC hX3
  obtain ⟨qz, hqz⟩ : ∃ q, X2.heap.size = q := ⟨_, rfl⟩
  have HX := Lib.hid (And.intro ((x2.block qx (lt_blkD HX2.out.1)).trans HX2.out.1) (And.intro ((x2.block qy (lt_blkD HX2.out.2.1)).trans HX2.out.2.1) (And.intro (hqz ▸ x1) (And.intro (below_two' HX2.out.2.2 x2) (And.intro (hqz ▸ lt_blkD HX2.out.1) (And.intro (hqz ▸ lt_blkD HX2.out.2.1) (hqz ▸ HX2.out.2.2.size)))))))
  rw [hqz]
  clear hX3 x1 x2 hqz HX2
  generalize X3 = X at *
  go_wp2_with fail
  obtain ⟨R, hR⟩ : ∃ R, bits .xor .i64 a b = R := ⟨_, rfl⟩
  have HR := Lib.hid hR
  clear hR
  go_loopw [18] (fun i wr => ∃ k : Nat, i = .int .i64 (k : Int) ∧ Hid (k ≤ 64 ∧ Bit64 X qz R k wr)) (fun v _ => 64 - (intOf v).toNat)
  case atStart => exact ⟨0, rfl, Lib.hid ⟨by omega, by simpa using HX.out.2.2.1, Only.refl _ _⟩⟩
  case round =>
    obtain ⟨k, rfl, HK⟩ := hrel
    by_cases hk : k < 64
    · have pp : ((k : Int) < 64) = True := eq_true (by omega)
      have k0 : 0 ≤ (k : Int) := by omega
      have k1 : (k : Int) < 64 := by omega
      have cx := cellC ((HK.out.2.2.block qx (lt_blkD HX.out.1) (by have := HX.out.2.2.2.2.1; omega)).trans HX.out.1) hk
      have cy := cellC ((HK.out.2.2.block qy (lt_blkD HX.out.2.1) (by have := HX.out.2.2.2.2.2.1; omega)).trans HX.out.2.1) hk
      have hib := ib_xor a b k hk
      rw [HR.out] at hib
      rcases ib_two a k with ea | ea <;> rcases ib_two b k with eb | eb <;> rw [ea] at cx <;> rw [eb] at cy <;> rw [ea, eb] at hib
      all_goals
        have HI := Lib.hid hib
        clear ea eb hib
        go_wp2_with fail
        go_quiet (fail)
        have HD := Lib.hid (HK.out.2.drew nq)
        clear cx cy
        generalize wr.drewN nq = W2 at *
        have cz := cellC HD.out.1 hk
        have fz := frozenC HD.out.1 k
        go_wp2_with fail
        go_roundw
        case rel => exact ⟨k + 1, by go_num, Lib.hid ⟨by omega, by first | exact HD.out.step _ (by rw [HI.out]; decide) | exact HD.out.skip (by rw [HI.out]; decide)⟩⟩
        case measure => simp [intOf]; omega
    · obtain rfl : k = 64 := by have := HK.out.1; omega
      have hb : Below w.heap.size w wr := HX.out.2.2.2.1.trans (HK.out.2.2.below HX.out.2.2.2.1.size (fun j hj e => by have := HX.out.2.2.2.2.2.2; omega))
      have HZ := Lib.hid (And.intro HK.out.2.fin (And.intro hb (show wrap64 (inum (ib R) 64) = doV 7 a b by rw [number_ib (ib R) R (fun _ _ => rfl), ← HR.out, bits_range]; rfl)))
      clear hb
      go_wp2_with (first | (refine wpList_load_row rfl 41 _ rfl qz rfl 41 _ (0, 0) _ HZ.out.1 Tryd.underlying41 rfl (size64 _) ?_) | fail)
      refine (number_calls (ib R) (fun i _ => ib_two R i) wr).mono ?_
      rintro e W9 ⟨rfl, hb9⟩
      rw [HZ.out.2.2]
      have HB9 := Lib.hid (below_two' HZ.out.2.1 hb9)
      clear hb9
      go_wp2_with fail
      go_ret2
      exact ⟨rfl, HB9.out⟩
end Go.Proofs.YteojcdpmlhlfaaaDoor
