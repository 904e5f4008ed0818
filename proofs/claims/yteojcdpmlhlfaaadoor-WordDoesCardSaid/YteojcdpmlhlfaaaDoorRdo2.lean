/- The document's answer, further ops. Condition: the numbers' range where it is named. -/
import Derived.Test.YteojcdpmlhlfaaaDoorRdo
import Derived.LoopTactic
namespace Go.Proofs.YteojcdpmlhlfaaaDoor
open Go.RowKit
/-- While a sum's bits are made. -/
def Sum64 (X : World) (qz : Nat) (f g : Nat → Int) (o : Int) (k : Nat) (c : Int) (wr : World) : Prop :=
  ∃ z : Nat → Int, wr.heap[qz]? = some (.cells (arrC z) 41 (0, 0)) ∧ (∀ i, i < 64 → z i = 0 ∨ z i = 1) ∧ inum z k + c * 2 ^ k = inum f k + inum g k + o ∧ (c = 0 ∨ c = 1) ∧ Only (fun j => j = qz) X wr
theorem inum_set {z : Nat → Int} {k : Nat} (v : Int) : inum (fun j => if j = k then v else z j) k = inum z k := inum_congr k (fun i hi => by simp; omega)
theorem Sum64.step {X wr : World} {qz : Nat} {f g : Nat → Int} {o : Int} {k : Nat} {c : Int} (h : Sum64 X qz f g o k c wr) (zv cv : Int) (h1 : zv + cv * 2 = f k + g k + c) (hz : zv = 0 ∨ zv = 1) (hc : cv = 0 ∨ cv = 1) :
    Sum64 X qz f g o (k + 1) cv (wr.setCell ⟨qz, k, none⟩ (.int .i64 zv)) := by
  obtain ⟨z, z1, z2, z3, z4, z5⟩ := h
  refine ⟨_, setC z1 k zv, fun i hi => ?_, ?_, hc, z5.trans (Only.setCell _ _ _) (fun _ _ e => e)⟩
  · by_cases e : i = k
    · simp [e, hz]
    · simp [e, z2 i hi]
  · rw [inum, inum_set, if_pos rfl, inum, inum, pow_succ']
    have e2 : zv * 2 ^ k + cv * (2 ^ k * 2) = (f k + g k + c) * 2 ^ k := by
      rw [← h1, Int.add_mul, Int.mul_comm (2 ^ k) 2, Int.mul_assoc]
    rw [Int.add_mul, Int.add_mul] at e2
    omega
set_option maxRecDepth 100000 in
set_option maxHeartbeats 4000000 in
theorem rdo_add (a b : Int) (w : World) : Calls Tryd.prog 10 #[.int .i64 0, .int .i64 a, .int .i64 b] w (RdoPost 0 a b w) := by
  go_enter Tryd.func10, Tryd.ntmps10
  go_wp2_with fail
  refine (bits_calls a w).mono ?_
  rintro e W1 ⟨rfl, hb1⟩
  have H1 := Lib.hid hb1
  clear hb1
  go_upto_region 2 with (first | (refine wpList_store_row rfl 41 _ _ rfl W1.heap.size _ rfl rfl 41 (arrC (fun _ => 0)) (heap_alloc_new W1 _) (size64 _) (by rw [arrC_size, arrC_size]) (one64 _) ?_) | fail)
  generalize hX1 : World.setRow _ _ _ = X1
  obtain ⟨x1, x2⟩ := laidC hX1
  obtain ⟨qx, hqx⟩ : ∃ q, W1.heap.size = q := ⟨_, rfl⟩
  have HX1 := Lib.hid (And.intro (hqx ▸ x1) (below_two' H1.out x2))
  rw [hqx]
  clear hX1 x1 x2 hqx H1
  go_wp2_with fail
  refine (bits_calls b X1).mono ?_
  rintro e W2 ⟨rfl, hb2⟩
  have H2 := Lib.hid (And.intro ((hb2.block qx (lt_blkD HX1.out.1)).trans HX1.out.1) (below_two' HX1.out.2 hb2))
  clear hb2 HX1
  go_upto_region 3 with (first | (refine wpList_store_row rfl 41 _ _ rfl W2.heap.size _ rfl rfl 41 (arrC (fun _ => 0)) (heap_alloc_new W2 _) (size64 _) (by rw [arrC_size, arrC_size]) (one64 _) ?_) | fail)
  generalize hX2 : World.setRow _ _ _ = X2
  obtain ⟨x1, x2⟩ := laidC hX2
  obtain ⟨qy, hqy⟩ : ∃ q, W2.heap.size = q := ⟨_, rfl⟩
  have HX2 := Lib.hid (And.intro ((x2.block qx (lt_blkD H2.out.1)).trans H2.out.1) (And.intro (hqy ▸ x1) (below_two' H2.out.2 x2)))
  rw [hqy]
  clear hX2 x1 x2 hqy H2
  go_upto_region 4 with (fail)
  generalize hX3 : World.alloc _ _ = X3
  obtain ⟨x1, x2⟩ := zeroC hX3
  obtain ⟨qz, hqz⟩ : ∃ q, X2.heap.size = q := ⟨_, rfl⟩
  have HX := Lib.hid (And.intro ((x2.block qx (lt_blkD HX2.out.1)).trans HX2.out.1) (And.intro ((x2.block qy (lt_blkD HX2.out.2.1)).trans HX2.out.2.1) (And.intro (hqz ▸ x1) (And.intro (below_two' HX2.out.2.2 x2) (And.intro (hqz ▸ lt_blkD HX2.out.1) (And.intro (hqz ▸ lt_blkD HX2.out.2.1) (hqz ▸ HX2.out.2.2.size)))))))
  rw [hqz]
  clear hX3 x1 x2 hqz HX2
  generalize X3 = X at *
  go_wp2_with fail
  go_loopw [11, 12] (fun c i wr => ∃ (k : Nat) (cv : Int), i = .int .i64 (k : Int) ∧ c = .int .i64 cv ∧ Hid (k ≤ 64 ∧ Sum64 X qz (ib a) (ib b) 0 k cv wr)) (fun _ v _ => 64 - (intOf v).toNat)
  case atStart => exact ⟨0, 0, rfl, rfl, Lib.hid ⟨by omega, _, HX.out.2.2.1, fun i _ => .inl rfl, by simp [inum], .inl rfl, Only.refl _ _⟩⟩
  case round =>
    obtain ⟨k, cv, rfl, rfl, HK⟩ := hrel
    by_cases hk : k < 64
    · have pp : ((k : Int) < 64) = True := eq_true (by omega)
      have k0 : 0 ≤ (k : Int) := by omega
      have k1 : (k : Int) < 64 := by omega
      obtain ⟨z, z1, z2, z3, z4, z5⟩ := HK.out.2
      have cx := cellC ((z5.block qx (lt_blkD HX.out.1) (by have := HX.out.2.2.2.2.1; omega)).trans HX.out.1) hk
      have cy := cellC ((z5.block qy (lt_blkD HX.out.2.1) (by have := HX.out.2.2.2.2.2.1; omega)).trans HX.out.2.1) hk
      have cz := cellC z1 hk
      have fz := frozenC z1 k
      have ST := Lib.hid (fun zv cv2 => HK.out.2.step zv cv2)
      clear z1 z2 z3 z5
      have hzl : qx < qz ∧ qy < qz := ⟨HX.out.2.2.2.2.1, HX.out.2.2.2.2.2.1⟩
      have hne : qx ≠ qz ∧ qy ≠ qz := by omega
      clear hzl
      rcases ib_two a k with ea | ea <;> rcases ib_two b k with eb | eb <;> rcases z4 with rfl | rfl <;> rw [ea] at cx <;> rw [eb] at cy
      all_goals
        have STT := ST.out
        rw [ea, eb] at STT
        have ST2 := Lib.hid STT
        clear ea eb STT ST
        go_wp2_with fail
        go_roundw
        case rel => exact ⟨k + 1, _, by go_num, rfl, Lib.hid ⟨by omega, ST2.out _ _ (by decide) (by decide) (by decide)⟩⟩
        case measure => simp [intOf]; omega
    · obtain rfl : k = 64 := by have := HK.out.1; omega
      obtain ⟨z, z1, z2, z3, z4, z5⟩ := HK.out.2
      have hb : Below w.heap.size w wr := HX.out.2.2.2.1.trans (z5.below HX.out.2.2.2.1.size (fun j hj e => by have := HX.out.2.2.2.2.2.2; omega))
      have HZ := Lib.hid (And.intro z1 (And.intro z2 (And.intro hb (show wrap64 (inum z 64) = doV 0 a b from add_end z3))))
      clear z1 z2 z3 z4 z5 hb
      go_wp2_with (first | (refine wpList_load_row rfl 41 _ rfl qz rfl 41 _ (0, 0) _ HZ.out.1 Tryd.underlying41 rfl (size64 _) ?_) | fail)
      refine (number_calls z HZ.out.2.1 wr).mono ?_
      rintro e W9 ⟨rfl, hb9⟩
      rw [HZ.out.2.2.2]
      have HB9 := Lib.hid (below_two' HZ.out.2.2.1 hb9)
      clear hb9
      go_wp2_with fail
      go_ret2
      exact ⟨rfl, HB9.out⟩
set_option maxRecDepth 100000 in
set_option maxHeartbeats 4000000 in
theorem rdo_sub (a b : Int) (w : World) : Calls Tryd.prog 10 #[.int .i64 1, .int .i64 a, .int .i64 b] w (RdoPost 1 a b w) := by
  go_enter Tryd.func10, Tryd.ntmps10
  go_wp2_with fail
  refine (bits_calls a w).mono ?_
  rintro e W1 ⟨rfl, hb1⟩
  have H1 := Lib.hid hb1
  clear hb1
  go_upto_region 2 with (first | (refine wpList_store_row rfl 41 _ _ rfl W1.heap.size _ rfl rfl 41 (arrC (fun _ => 0)) (heap_alloc_new W1 _) (size64 _) (by rw [arrC_size, arrC_size]) (one64 _) ?_) | fail)
  generalize hX1 : World.setRow _ _ _ = X1
  obtain ⟨x1, x2⟩ := laidC hX1
  obtain ⟨qx, hqx⟩ : ∃ q, W1.heap.size = q := ⟨_, rfl⟩
  have HX1 := Lib.hid (And.intro (hqx ▸ x1) (below_two' H1.out x2))
  rw [hqx]
  clear hX1 x1 x2 hqx H1
  go_wp2_with fail
  refine (bits_calls b X1).mono ?_
  rintro e W2 ⟨rfl, hb2⟩
  have H2 := Lib.hid (And.intro ((hb2.block qx (lt_blkD HX1.out.1)).trans HX1.out.1) (below_two' HX1.out.2 hb2))
  clear hb2 HX1
  go_upto_region 3 with (first | (refine wpList_store_row rfl 41 _ _ rfl W2.heap.size _ rfl rfl 41 (arrC (fun _ => 0)) (heap_alloc_new W2 _) (size64 _) (by rw [arrC_size, arrC_size]) (one64 _) ?_) | fail)
  generalize hX2 : World.setRow _ _ _ = X2
  obtain ⟨x1, x2⟩ := laidC hX2
  obtain ⟨qy, hqy⟩ : ∃ q, W2.heap.size = q := ⟨_, rfl⟩
  have HX2 := Lib.hid (And.intro ((x2.block qx (lt_blkD H2.out.1)).trans H2.out.1) (And.intro (hqy ▸ x1) (below_two' H2.out.2 x2)))
  rw [hqy]
  clear hX2 x1 x2 hqy H2
  go_upto_region 4 with (fail)
  generalize hX3 : World.alloc _ _ = X3
  obtain ⟨x1, x2⟩ := zeroC hX3
  obtain ⟨qz, hqz⟩ : ∃ q, X2.heap.size = q := ⟨_, rfl⟩
  have HX := Lib.hid (And.intro ((x2.block qx (lt_blkD HX2.out.1)).trans HX2.out.1) (And.intro ((x2.block qy (lt_blkD HX2.out.2.1)).trans HX2.out.2.1) (And.intro (hqz ▸ x1) (And.intro (below_two' HX2.out.2.2 x2) (And.intro (hqz ▸ lt_blkD HX2.out.1) (And.intro (hqz ▸ lt_blkD HX2.out.2.1) (hqz ▸ HX2.out.2.2.size)))))))
  rw [hqz]
  clear hX3 x1 x2 hqz HX2
  generalize X3 = X at *
  go_wp2_with fail
  go_loopw [11, 12] (fun c i wr => ∃ (k : Nat) (cv : Int), i = .int .i64 (k : Int) ∧ c = .int .i64 cv ∧ Hid (k ≤ 64 ∧ Sum64 X qz (ib a) (fun i => 1 - ib b i) 1 k cv wr)) (fun _ v _ => 64 - (intOf v).toNat)
  case atStart => exact ⟨0, 1, rfl, rfl, Lib.hid ⟨by omega, _, HX.out.2.2.1, fun i _ => .inl rfl, by simp [inum], .inr rfl, Only.refl _ _⟩⟩
  case round =>
    obtain ⟨k, cv, rfl, rfl, HK⟩ := hrel
    by_cases hk : k < 64
    · have pp : ((k : Int) < 64) = True := eq_true (by omega)
      have k0 : 0 ≤ (k : Int) := by omega
      have k1 : (k : Int) < 64 := by omega
      obtain ⟨z, z1, z2, z3, z4, z5⟩ := HK.out.2
      have cx := cellC ((z5.block qx (lt_blkD HX.out.1) (by have := HX.out.2.2.2.2.1; omega)).trans HX.out.1) hk
      have cy := cellC ((z5.block qy (lt_blkD HX.out.2.1) (by have := HX.out.2.2.2.2.2.1; omega)).trans HX.out.2.1) hk
      have cz := cellC z1 hk
      have fz := frozenC z1 k
      have ST := Lib.hid (fun zv cv2 => HK.out.2.step zv cv2)
      clear z1 z2 z3 z5
      have hzl : qx < qz ∧ qy < qz := ⟨HX.out.2.2.2.2.1, HX.out.2.2.2.2.2.1⟩
      have hne : qx ≠ qz ∧ qy ≠ qz := by omega
      clear hzl
      rcases ib_two a k with ea | ea <;> rcases ib_two b k with eb | eb <;> rcases z4 with rfl | rfl <;> rw [ea] at cx <;> rw [eb] at cy
      all_goals
        have STT := ST.out
        simp only [ea, eb] at STT
        have ST2 := Lib.hid STT
        clear ea eb STT ST
        go_wp2_with fail
        go_roundw
        case rel => exact ⟨k + 1, _, by go_num, rfl, Lib.hid ⟨by omega, ST2.out _ _ (by decide) (by decide) (by decide)⟩⟩
        case measure => simp [intOf]; omega
    · obtain rfl : k = 64 := by have := HK.out.1; omega
      obtain ⟨z, z1, z2, z3, z4, z5⟩ := HK.out.2
      have hb : Below w.heap.size w wr := HX.out.2.2.2.1.trans (z5.below HX.out.2.2.2.1.size (fun j hj e => by have := HX.out.2.2.2.2.2.2; omega))
      have HZ := Lib.hid (And.intro z1 (And.intro z2 (And.intro hb (show wrap64 (inum z 64) = doV 1 a b from sub_end z3))))
      clear z1 z2 z3 z4 z5 hb
      go_wp2_with (first | (refine wpList_load_row rfl 41 _ rfl qz rfl 41 _ (0, 0) _ HZ.out.1 Tryd.underlying41 rfl (size64 _) ?_) | fail)
      refine (number_calls z HZ.out.2.1 wr).mono ?_
      rintro e W9 ⟨rfl, hb9⟩
      rw [HZ.out.2.2.2]
      have HB9 := Lib.hid (below_two' HZ.out.2.2.1 hb9)
      clear hb9
      go_wp2_with fail
      go_ret2
      exact ⟨rfl, HB9.out⟩
end Go.Proofs.YteojcdpmlhlfaaaDoor
