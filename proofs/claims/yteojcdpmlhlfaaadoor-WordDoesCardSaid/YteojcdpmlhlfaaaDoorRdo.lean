/- What the document's answer computes, op by op, of any two numbers. Condition: the numbers' range. -/
import Derived.Test.YteojcdpmlhlfaaaDoorBits
import Derived.Deep.QuietTactic
import Derived.BigQuiet
import Derived.Deep.Cut
import Derived.Deep.CutRange
namespace Go.Proofs.YteojcdpmlhlfaaaDoor
open Go.RowKit
theorem below_two' {W X Y : World} (h : Below W.heap.size W X) (k : Below X.heap.size X Y) : Below W.heap.size W Y := h.trans (k.mono h.size)
theorem lt_blkD {w : World} {g : Nat} {o : Obj} (h : w.heap[g]? = some o) : g < w.heap.size := (Array.getElem?_eq_some_iff.1 h).1
theorem zeroC {W X : World} (h : W.alloc (.cells (arrC (fun _ => 0)) 41) = X) : X.heap[W.heap.size]? = some (.cells (arrC (fun _ => 0)) 41 (0, 0)) ∧ Below W.heap.size W X := by
  subst h
  exact ⟨heap_alloc_new W _, (Below.refl _ _).alloc (Nat.le_refl _) _⟩
theorem laidC {W X : World} {f : Nat → Int} (h : (W.alloc (.cells (arrC (fun _ => 0)) 41)).setRow W.heap.size (arrC f) = X) : X.heap[W.heap.size]? = some (.cells (arrC f) 41 (0, 0)) ∧ Below W.heap.size W X := by
  subst h
  have h1 := heap_alloc_new W (.cells (arrC (fun _ => 0)) 41)
  exact ⟨setRow_heap _ _ _ (arrC f) 41 (0, 0) h1, ((Below.refl _ _).alloc (Nat.le_refl _) _).trans ⟨rfl, rfl, rfl, by simp, fun k hk => setRow_other _ _ _ _ (by omega)⟩⟩
/-- What it answers. -/
def RdoPost (o a b : Int) (w : World) (e : Ending) (w' : World) : Prop := e = .returned (.tuple #[.int .i64 (doV o a b), .bool (doK o b)]) ∧ Below w.heap.size w w'
theorem wrap_addN (x y : Int) : IntKind.u64.wrap ((uN x : Int) + (uN y : Int)) = ((uN (x + y) : Nat) : Int) := by
  rw [wrap_uN, uN_cast, uN_cast, uN_cast, uN_cast]; omega
theorem wrap_backN (x : Int) : IntKind.i64.wrap ((uN x : Nat) : Int) = wrap64 x := by
  rw [IntKind.wrap_i64, uN_cast]; unfold wrap64; omega
theorem wrap_back64 (x : Int) : wrap64 ((uN x : Nat) : Int) = wrap64 x := by
  rw [uN_cast]; unfold wrap64; omega
theorem uN_zero : uN 0 = 0 := by decide
theorem mul_end' (a b : Int) : wrap64 (a * (b % 2 ^ 64)) = doV 2 a b := mul_end a b
set_option maxRecDepth 100000 in
set_option maxHeartbeats 4000000 in
theorem rdo_mul (a b : Int) (w : World) : Calls Tryd.prog 10 #[.int .i64 2, .int .i64 a, .int .i64 b] w (RdoPost 2 a b w) := by
  go_enter Tryd.func10, Tryd.ntmps10
  go_wp2_with fail
  refine (bits_calls a w).mono ?_
  rintro e W1 ⟨rfl, hb1⟩
  have H1 := Lib.hid hb1
  clear hb1
  go_upto_region 2 with (first | (refine wpList_store_row rfl 41 _ _ rfl W1.heap.size _ rfl rfl 41 (arrC (fun _ => 0)) (heap_alloc_new W1 _) (size64 _) (by rw [arrC_size, arrC_size]) (one64 _) ?_) | fail)
  generalize hX1 : World.setRow _ _ _ = X1
  obtain ⟨x1, x2⟩ := laidC hX1
  obtain ⟨qx, hqx⟩ : ∃ q, W1.heap.size = q := ⟨_, rfl⟩
  have HX1 := Lib.hid (And.intro (hqx ▸ x1) (below_two' H1.out x2))
  rw [hqx]
  clear hX1 x1 x2 hqx H1
  go_wp2_with fail
  refine (bits_calls b X1).mono ?_
  rintro e W2 ⟨rfl, hb2⟩
  have H2 := Lib.hid (And.intro ((hb2.block qx (lt_blkD HX1.out.1)).trans HX1.out.1) (below_two' HX1.out.2 hb2))
  clear hb2 HX1
  go_upto_region 3 with (first | (refine wpList_store_row rfl 41 _ _ rfl W2.heap.size _ rfl rfl 41 (arrC (fun _ => 0)) (heap_alloc_new W2 _) (size64 _) (by rw [arrC_size, arrC_size]) (one64 _) ?_) | fail)
  generalize hX2 : World.setRow _ _ _ = X2
  obtain ⟨x1, x2⟩ := laidC hX2
  obtain ⟨qy, hqy⟩ : ∃ q, W2.heap.size = q := ⟨_, rfl⟩
  have HX2 := Lib.hid (And.intro ((x2.block qx (lt_blkD H2.out.1)).trans H2.out.1) (And.intro (hqy ▸ x1) (below_two' H2.out.2 x2)))
  rw [hqy]
  clear hX2 x1 x2 hqy H2
  go_upto_region 4 with (fail)
  generalize hX3 : World.alloc _ _ = X3
  obtain ⟨x1, x2⟩ := zeroC hX3
  obtain ⟨qz, hqz⟩ : ∃ q, X2.heap.size = q := ⟨_, rfl⟩
  have HX := Lib.hid (And.intro ((x2.block qx (lt_blkD HX2.out.1)).trans HX2.out.1) (And.intro ((x2.block qy (lt_blkD HX2.out.2.1)).trans HX2.out.2.1) (And.intro (hqz ▸ x1) (And.intro (below_two' HX2.out.2.2 x2) (And.intro (hqz ▸ lt_blkD HX2.out.1) (And.intro (hqz ▸ lt_blkD HX2.out.2.1) (hqz ▸ HX2.out.2.2.size)))))))
  rw [hqz]
  clear hX3 x1 x2 hqz HX2
  generalize X3 = X at *
  go_wp2_with fail
  rw [wrap_uN]
  go_loop [15, 16, 17] (fun u v i => ∃ k : Nat, i = .int .i64 (k : Int) ∧ u = .int .u64 ((uN (a * (b % 2 ^ k)) : Nat) : Int) ∧ v = .int .u64 ((uN (a * 2 ^ k) : Nat) : Int) ∧ Hid (k ≤ 64)) (fun _ _ v => 64 - (intOf v).toNat)
  case atStart => exact ⟨0, rfl, by simp [Int.emod_one, uN_zero], by simp, Lib.hid (by omega)⟩
  case round =>
    obtain ⟨k, rfl, rfl, rfl, HK⟩ := hrel
    by_cases hk : k < 64
    · have pp : ((k : Int) < 64) = True := eq_true (by omega)
      have k0 : 0 ≤ (k : Int) := by omega
      have k1 : (k : Int) < 64 := by omega
      have c := cellC HX.out.2.1 hk
      have HM := Lib.hid (mul_next a b k)
      have HP := Lib.hid (show a * 2 ^ (k + 1) = a * 2 ^ k + a * 2 ^ k by rw [pow_succ', ← Int.mul_assoc]; omega)
      generalize a * 2 ^ k = y at *
      generalize a * (b % 2 ^ k) = x at *
      rcases ib_two b k with e | e
      · rw [e] at c
        have HE := Lib.hid (show a * (b % 2 ^ (k + 1)) = x by rw [HM.out, e]; omega)
        clear e
        go_wp2_with fail
        go_round
        case rel => exact ⟨k + 1, by go_num, by rw [HE.out], by rw [HP.out, ← wrap_addN], Lib.hid (by omega)⟩
        case measure => simp [intOf]; omega
      · rw [e] at c
        have HE := Lib.hid (show a * (b % 2 ^ (k + 1)) = x + y by rw [HM.out, e]; omega)
        clear e
        go_wp2_with fail
        go_round
        case rel => exact ⟨k + 1, by go_num, by rw [HE.out, ← wrap_addN], by rw [HP.out, ← wrap_addN], Lib.hid (by omega)⟩
        case measure => simp [intOf]; omega
    · obtain rfl : k = 64 := by have := HK.out; omega
      go_wp2_with fail
      go_ret2
      refine ⟨?_, HX.out.2.2.2.1⟩
      have h1 : wrap64 ((uN (a * (b % 18446744073709551616)) : Nat) : Int) = doV 2 a b := by
        rw [wrap_back64]; exact mul_end' a b
      rw [← h1]
      rfl
set_option maxRecDepth 100000 in
set_option maxHeartbeats 4000000 in
theorem idiv_calls (a b : Int) (w : World) (hb : b ≠ 0) (hb2 : (b == 0) = false) : Calls Tryd.prog 10 #[.int .i64 3, .int .i64 a, .int .i64 b] w fun e w' => e = .returned (.tuple #[.int .i64 (wrap64 (a.tdiv b)), .bool true]) ∧ Below w.heap.size w w' := by
  go_enter Tryd.func10, Tryd.ntmps10
  go_wp2_with fail
  refine (bits_calls a w).mono ?_
  rintro e W1 ⟨rfl, hb1⟩
  have H1 := Lib.hid hb1
  clear hb1
  go_upto_region 2 with (first | (refine wpList_store_row rfl 41 _ _ rfl W1.heap.size _ rfl rfl 41 (arrC (fun _ => 0)) (heap_alloc_new W1 _) (size64 _) (by rw [arrC_size, arrC_size]) (one64 _) ?_) | fail)
  generalize hX1 : World.setRow _ _ _ = X1
  obtain ⟨x1, x2⟩ := laidC hX1
  obtain ⟨qx, hqx⟩ : ∃ q, W1.heap.size = q := ⟨_, rfl⟩
  have HX1 := Lib.hid (And.intro (hqx ▸ x1) (below_two' H1.out x2))
  rw [hqx]
  clear hX1 x1 x2 hqx H1
  go_wp2_with fail
  refine (bits_calls b X1).mono ?_
  rintro e W2 ⟨rfl, hb2⟩
  have H2 := Lib.hid (And.intro ((hb2.block qx (lt_blkD HX1.out.1)).trans HX1.out.1) (below_two' HX1.out.2 hb2))
  clear hb2 HX1
  go_upto_region 3 with (first | (refine wpList_store_row rfl 41 _ _ rfl W2.heap.size _ rfl rfl 41 (arrC (fun _ => 0)) (heap_alloc_new W2 _) (size64 _) (by rw [arrC_size, arrC_size]) (one64 _) ?_) | fail)
  generalize hX2 : World.setRow _ _ _ = X2
  obtain ⟨x1, x2⟩ := laidC hX2
  obtain ⟨qy, hqy⟩ : ∃ q, W2.heap.size = q := ⟨_, rfl⟩
  have HX2 := Lib.hid (And.intro ((x2.block qx (lt_blkD H2.out.1)).trans H2.out.1) (And.intro (hqy ▸ x1) (below_two' H2.out.2 x2)))
  rw [hqy]
  clear hX2 x1 x2 hqy H2
  go_upto_region 4 with (fail)
  generalize hX3 : World.alloc _ _ = X3
  obtain ⟨x1, x2⟩ := zeroC hX3
  obtain ⟨qz, hqz⟩ : ∃ q, X2.heap.size = q := ⟨_, rfl⟩
  have HX := Lib.hid (And.intro ((x2.block qx (lt_blkD HX2.out.1)).trans HX2.out.1) (And.intro ((x2.block qy (lt_blkD HX2.out.2.1)).trans HX2.out.2.1) (And.intro (hqz ▸ x1) (And.intro (below_two' HX2.out.2.2 x2) (And.intro (hqz ▸ lt_blkD HX2.out.1) (And.intro (hqz ▸ lt_blkD HX2.out.2.1) (hqz ▸ HX2.out.2.2.size)))))))
  rw [hqz]
  clear hX3 x1 x2 hqz HX2
  generalize X3 = X at *
  go_wp2_with fail
  go_ret2
  exact ⟨rfl, HX.out.2.2.2.1⟩
set_option maxRecDepth 100000 in
set_option maxHeartbeats 4000000 in
theorem irem_calls (a b : Int) (w : World) (hb : b ≠ 0) (hb2 : (b == 0) = false) : Calls Tryd.prog 10 #[.int .i64 4, .int .i64 a, .int .i64 b] w fun e w' => e = .returned (.tuple #[.int .i64 (wrap64 (a - wrap64 (b * wrap64 (a.tdiv b)))), .bool true]) ∧ Below w.heap.size w w' := by
  go_enter Tryd.func10, Tryd.ntmps10
  go_wp2_with fail
  refine (bits_calls a w).mono ?_
  rintro e W1 ⟨rfl, hb1⟩
  have H1 := Lib.hid hb1
  clear hb1
  go_upto_region 2 with (first | (refine wpList_store_row rfl 41 _ _ rfl W1.heap.size _ rfl rfl 41 (arrC (fun _ => 0)) (heap_alloc_new W1 _) (size64 _) (by rw [arrC_size, arrC_size]) (one64 _) ?_) | fail)
  generalize hX1 : World.setRow _ _ _ = X1
  obtain ⟨x1, x2⟩ := laidC hX1
  obtain ⟨qx, hqx⟩ : ∃ q, W1.heap.size = q := ⟨_, rfl⟩
  have HX1 := Lib.hid (And.intro (hqx ▸ x1) (below_two' H1.out x2))
  rw [hqx]
  clear hX1 x1 x2 hqx H1
  go_wp2_with fail
  refine (bits_calls b X1).mono ?_
  rintro e W2 ⟨rfl, hb2⟩
  have H2 := Lib.hid (And.intro ((hb2.block qx (lt_blkD HX1.out.1)).trans HX1.out.1) (below_two' HX1.out.2 hb2))
  clear hb2 HX1
  go_upto_region 3 with (first | (refine wpList_store_row rfl 41 _ _ rfl W2.heap.size _ rfl rfl 41 (arrC (fun _ => 0)) (heap_alloc_new W2 _) (size64 _) (by rw [arrC_size, arrC_size]) (one64 _) ?_) | fail)
  generalize hX2 : World.setRow _ _ _ = X2
  obtain ⟨x1, x2⟩ := laidC hX2
  obtain ⟨qy, hqy⟩ : ∃ q, W2.heap.size = q := ⟨_, rfl⟩
  have HX2 := Lib.hid (And.intro ((x2.block qx (lt_blkD H2.out.1)).trans H2.out.1) (And.intro (hqy ▸ x1) (below_two' H2.out.2 x2)))
  rw [hqy]
  clear hX2 x1 x2 hqy H2
  go_upto_region 4 with (fail)
  generalize hX3 : World.alloc _ _ = X3
  obtain ⟨x1, x2⟩ := zeroC hX3
  obtain ⟨qz, hqz⟩ : ∃ q, X2.heap.size = q := ⟨_, rfl⟩
  have HX := Lib.hid (And.intro ((x2.block qx (lt_blkD HX2.out.1)).trans HX2.out.1) (And.intro ((x2.block qy (lt_blkD HX2.out.2.1)).trans HX2.out.2.1) (And.intro (hqz ▸ x1) (And.intro (below_two' HX2.out.2.2 x2) (And.intro (hqz ▸ lt_blkD HX2.out.1) (And.intro (hqz ▸ lt_blkD HX2.out.2.1) (hqz ▸ HX2.out.2.2.size)))))))
  rw [hqz]
  clear hX3 x1 x2 hqz HX2
  generalize X3 = X at *
  go_wp2_with fail
  go_ret2
  exact ⟨rfl, HX.out.2.2.2.1⟩
set_option maxRecDepth 100000 in
set_option maxHeartbeats 4000000 in
theorem izero_calls (o : Int) (ho : o = 3 ∨ o = 4) (a b : Int) (hb0 : b = 0) (w : World) : Calls Tryd.prog 10 #[.int .i64 o, .int .i64 a, .int .i64 b] w fun e w' => e = .returned (.tuple #[.int .i64 0, .bool false]) ∧ Below w.heap.size w w' := by
  have HO := Lib.hid ho
  have HB := Lib.hid hb0
  clear ho hb0
  go_enter Tryd.func10, Tryd.ntmps10
  go_wp2_with fail
  refine (bits_calls a w).mono ?_
  rintro e W1 ⟨rfl, hb1⟩
  have H1 := Lib.hid hb1
  clear hb1
  go_upto_region 2 with (first | (refine wpList_store_row rfl 41 _ _ rfl W1.heap.size _ rfl rfl 41 (arrC (fun _ => 0)) (heap_alloc_new W1 _) (size64 _) (by rw [arrC_size, arrC_size]) (one64 _) ?_) | fail)
  generalize hX1 : World.setRow _ _ _ = X1
  obtain ⟨x1, x2⟩ := laidC hX1
  obtain ⟨qx, hqx⟩ : ∃ q, W1.heap.size = q := ⟨_, rfl⟩
  have HX1 := Lib.hid (And.intro (hqx ▸ x1) (below_two' H1.out x2))
  rw [hqx]
  clear hX1 x1 x2 hqx H1
  go_wp2_with fail
  refine (bits_calls b X1).mono ?_
  rintro e W2 ⟨rfl, hb2⟩
  have H2 := Lib.hid (And.intro ((hb2.block qx (lt_blkD HX1.out.1)).trans HX1.out.1) (below_two' HX1.out.2 hb2))
  clear hb2 HX1
  go_upto_region 3 with (first | (refine wpList_store_row rfl 41 _ _ rfl W2.heap.size _ rfl rfl 41 (arrC (fun _ => 0)) (heap_alloc_new W2 _) (size64 _) (by rw [arrC_size, arrC_size]) (one64 _) ?_) | fail)
  generalize hX2 : World.setRow _ _ _ = X2
  obtain ⟨x1, x2⟩ := laidC hX2
  obtain ⟨qy, hqy⟩ : ∃ q, W2.heap.size = q := ⟨_, rfl⟩
  have HX2 := Lib.hid (And.intro ((x2.block qx (lt_blkD H2.out.1)).trans H2.out.1) (And.intro (hqy ▸ x1) (below_two' H2.out.2 x2)))
  rw [hqy]
  clear hX2 x1 x2 hqy H2
  go_upto_region 4 with (fail)
  generalize hX3 : World.alloc _ _ = X3
  obtain ⟨x1, x2⟩ := zeroC hX3
  obtain ⟨qz, hqz⟩ : ∃ q, X2.heap.size = q := ⟨_, rfl⟩
  have HX := Lib.hid (And.intro ((x2.block qx (lt_blkD HX2.out.1)).trans HX2.out.1) (And.intro ((x2.block qy (lt_blkD HX2.out.2.1)).trans HX2.out.2.1) (And.intro (hqz ▸ x1) (And.intro (below_two' HX2.out.2.2 x2) (And.intro (hqz ▸ lt_blkD HX2.out.1) (And.intro (hqz ▸ lt_blkD HX2.out.2.1) (hqz ▸ HX2.out.2.2.size)))))))
  rw [hqz]
  clear hX3 x1 x2 hqz HX2
  generalize X3 = X at *
  have hb0 := HB.out
  have qq : (b == 0) = true := by simp [hb0]
  clear hb0
  rcases HO.out with rfl | rfl
  · go_wp2_with fail
    go_ret2
    exact ⟨rfl, HX.out.2.2.2.1⟩
  · go_wp2_with fail
    go_ret2
    exact ⟨rfl, HX.out.2.2.2.1⟩
set_option maxRecDepth 100000 in
set_option maxHeartbeats 4000000 in
theorem eq_calls (a b : Int) (w : World) : Calls Tryd.prog 10 #[.int .i64 10, .int .i64 a, .int .i64 b] w (RdoPost 10 a b w) := by
  go_enter Tryd.func10, Tryd.ntmps10
  go_wp2_with fail
  refine (bits_calls a w).mono ?_
  rintro e W1 ⟨rfl, hb1⟩
  have H1 := Lib.hid hb1
  clear hb1
  go_upto_region 2 with (first | (refine wpList_store_row rfl 41 _ _ rfl W1.heap.size _ rfl rfl 41 (arrC (fun _ => 0)) (heap_alloc_new W1 _) (size64 _) (by rw [arrC_size, arrC_size]) (one64 _) ?_) | fail)
  generalize hX1 : World.setRow _ _ _ = X1
  obtain ⟨x1, x2⟩ := laidC hX1
  obtain ⟨qx, hqx⟩ : ∃ q, W1.heap.size = q := ⟨_, rfl⟩
  have HX1 := Lib.hid (And.intro (hqx ▸ x1) (below_two' H1.out x2))
  rw [hqx]
  clear hX1 x1 x2 hqx H1
  go_wp2_with fail
  refine (bits_calls b X1).mono ?_
  rintro e W2 ⟨rfl, hb2⟩
  have H2 := Lib.hid (And.intro ((hb2.block qx (lt_blkD HX1.out.1)).trans HX1.out.1) (below_two' HX1.out.2 hb2))
  clear hb2 HX1
  go_upto_region 3 with (first | (refine wpList_store_row rfl 41 _ _ rfl W2.heap.size _ rfl rfl 41 (arrC (fun _ => 0)) (heap_alloc_new W2 _) (size64 _) (by rw [arrC_size, arrC_size]) (one64 _) ?_) | fail)
  generalize hX2 : World.setRow _ _ _ = X2
  obtain ⟨x1, x2⟩ := laidC hX2
  obtain ⟨qy, hqy⟩ : ∃ q, W2.heap.size = q := ⟨_, rfl⟩
  have HX2 := Lib.hid (And.intro ((x2.block qx (lt_blkD H2.out.1)).trans H2.out.1) (And.intro (hqy ▸ x1) (below_two' H2.out.2 x2)))
  rw [hqy]
  clear hX2 x1 x2 hqy H2
  go_upto_region 4 with (fail)
  generalize hX3 : World.alloc _ _ = X3
  obtain ⟨x1, x2⟩ := zeroC hX3
  obtain ⟨qz, hqz⟩ : ∃ q, X2.heap.size = q := ⟨_, rfl⟩
  have HX := Lib.hid (And.intro ((x2.block qx (lt_blkD HX2.out.1)).trans HX2.out.1) (And.intro ((x2.block qy (lt_blkD HX2.out.2.1)).trans HX2.out.2.1) (And.intro (hqz ▸ x1) (And.intro (below_two' HX2.out.2.2 x2) (And.intro (hqz ▸ lt_blkD HX2.out.1) (And.intro (hqz ▸ lt_blkD HX2.out.2.1) (hqz ▸ HX2.out.2.2.size)))))))
  rw [hqz]
  clear hX3 x1 x2 hqz HX2
  generalize X3 = X at *
  by_cases h : a = b
  · have qq : (a == b) = true := by simp [h]
    have HE := Lib.hid (show doV 10 a b = 1 from if_pos h)
    clear h
    go_wp2_with fail
    go_ret2
    exact ⟨by rw [HE.out]; rfl, HX.out.2.2.2.1⟩
  · have qq : (a == b) = false := by simp [h]
    have HE := Lib.hid (show doV 10 a b = 0 from if_neg h)
    clear h
    go_wp2_with fail
    go_ret2
    exact ⟨by rw [HE.out]; rfl, HX.out.2.2.2.1⟩
set_option maxRecDepth 100000 in
set_option maxHeartbeats 4000000 in
theorem less_calls (a b : Int) (w : World) : Calls Tryd.prog 10 #[.int .i64 11, .int .i64 a, .int .i64 b] w (RdoPost 11 a b w) := by
  go_enter Tryd.func10, Tryd.ntmps10
  go_wp2_with fail
  refine (bits_calls a w).mono ?_
  rintro e W1 ⟨rfl, hb1⟩
  have H1 := Lib.hid hb1
  clear hb1
  go_upto_region 2 with (first | (refine wpList_store_row rfl 41 _ _ rfl W1.heap.size _ rfl rfl 41 (arrC (fun _ => 0)) (heap_alloc_new W1 _) (size64 _) (by rw [arrC_size, arrC_size]) (one64 _) ?_) | fail)
  generalize hX1 : World.setRow _ _ _ = X1
  obtain ⟨x1, x2⟩ := laidC hX1
  obtain ⟨qx, hqx⟩ : ∃ q, W1.heap.size = q := ⟨_, rfl⟩
  have HX1 := Lib.hid (And.intro (hqx ▸ x1) (below_two' H1.out x2))
  rw [hqx]
  clear hX1 x1 x2 hqx H1
  go_wp2_with fail
  refine (bits_calls b X1).mono ?_
  rintro e W2 ⟨rfl, hb2⟩
  have H2 := Lib.hid (And.intro ((hb2.block qx (lt_blkD HX1.out.1)).trans HX1.out.1) (below_two' HX1.out.2 hb2))
  clear hb2 HX1
  go_upto_region 3 with (first | (refine wpList_store_row rfl 41 _ _ rfl W2.heap.size _ rfl rfl 41 (arrC (fun _ => 0)) (heap_alloc_new W2 _) (size64 _) (by rw [arrC_size, arrC_size]) (one64 _) ?_) | fail)
  generalize hX2 : World.setRow _ _ _ = X2
  obtain ⟨x1, x2⟩ := laidC hX2
  obtain ⟨qy, hqy⟩ : ∃ q, W2.heap.size = q := ⟨_, rfl⟩
  have HX2 := Lib.hid (And.intro ((x2.block qx (lt_blkD H2.out.1)).trans H2.out.1) (And.intro (hqy ▸ x1) (below_two' H2.out.2 x2)))
  rw [hqy]
  clear hX2 x1 x2 hqy H2
  go_upto_region 4 with (fail)
  generalize hX3 : World.alloc _ _ = X3
  obtain ⟨x1, x2⟩ := zeroC hX3
  obtain ⟨qz, hqz⟩ : ∃ q, X2.heap.size = q := ⟨_, rfl⟩
  have HX := Lib.hid (And.intro ((x2.block qx (lt_blkD HX2.out.1)).trans HX2.out.1) (And.intro ((x2.block qy (lt_blkD HX2.out.2.1)).trans HX2.out.2.1) (And.intro (hqz ▸ x1) (And.intro (below_two' HX2.out.2.2 x2) (And.intro (hqz ▸ lt_blkD HX2.out.1) (And.intro (hqz ▸ lt_blkD HX2.out.2.1) (hqz ▸ HX2.out.2.2.size)))))))
  rw [hqz]
  clear hX3 x1 x2 hqz HX2
  generalize X3 = X at *
  by_cases h : a < b
  · have qq : (a < b) = True := eq_true h
    have HE := Lib.hid (show doV 11 a b = 1 from if_pos h)
    clear h
    go_wp2_with fail
    go_ret2
    exact ⟨by rw [HE.out]; rfl, HX.out.2.2.2.1⟩
  · have qq : (a < b) = False := eq_false h
    have HE := Lib.hid (show doV 11 a b = 0 from if_neg h)
    clear h
    go_wp2_with fail
    go_ret2
    exact ⟨by rw [HE.out]; rfl, HX.out.2.2.2.1⟩
set_option maxRecDepth 100000 in
set_option maxHeartbeats 4000000 in
theorem none_calls (o a b : Int) (ho : o = 12 ∨ o = 13) (w : World) : Calls Tryd.prog 10 #[.int .i64 o, .int .i64 a, .int .i64 b] w fun e w' => e = .returned (.tuple #[.int .i64 0, .bool false]) ∧ Below w.heap.size w w' := by
  have HO := Lib.hid ho
  clear ho
  go_enter Tryd.func10, Tryd.ntmps10
  go_wp2_with fail
  refine (bits_calls a w).mono ?_
  rintro e W1 ⟨rfl, hb1⟩
  have H1 := Lib.hid hb1
  clear hb1
  go_upto_region 2 with (first | (refine wpList_store_row rfl 41 _ _ rfl W1.heap.size _ rfl rfl 41 (arrC (fun _ => 0)) (heap_alloc_new W1 _) (size64 _) (by rw [arrC_size, arrC_size]) (one64 _) ?_) | fail)
  generalize hX1 : World.setRow _ _ _ = X1
  obtain ⟨x1, x2⟩ := laidC hX1
  obtain ⟨qx, hqx⟩ : ∃ q, W1.heap.size = q := ⟨_, rfl⟩
  have HX1 := Lib.hid (And.intro (hqx ▸ x1) (below_two' H1.out x2))
  rw [hqx]
  clear hX1 x1 x2 hqx H1
  go_wp2_with fail
  refine (bits_calls b X1).mono ?_
  rintro e W2 ⟨rfl, hb2⟩
  have H2 := Lib.hid (And.intro ((hb2.block qx (lt_blkD HX1.out.1)).trans HX1.out.1) (below_two' HX1.out.2 hb2))
  clear hb2 HX1
  go_upto_region 3 with (first | (refine wpList_store_row rfl 41 _ _ rfl W2.heap.size _ rfl rfl 41 (arrC (fun _ => 0)) (heap_alloc_new W2 _) (size64 _) (by rw [arrC_size, arrC_size]) (one64 _) ?_) | fail)
  generalize hX2 : World.setRow _ _ _ = X2
  obtain ⟨x1, x2⟩ := laidC hX2
  obtain ⟨qy, hqy⟩ : ∃ q, W2.heap.size = q := ⟨_, rfl⟩
  have HX2 := Lib.hid (And.intro ((x2.block qx (lt_blkD H2.out.1)).trans H2.out.1) (And.intro (hqy ▸ x1) (below_two' H2.out.2 x2)))
  rw [hqy]
  clear hX2 x1 x2 hqy H2
  go_upto_region 4 with (fail)
  generalize hX3 : World.alloc _ _ = X3
  obtain ⟨x1, x2⟩ := zeroC hX3
  obtain ⟨qz, hqz⟩ : ∃ q, X2.heap.size = q := ⟨_, rfl⟩
  have HX := Lib.hid (And.intro ((x2.block qx (lt_blkD HX2.out.1)).trans HX2.out.1) (And.intro ((x2.block qy (lt_blkD HX2.out.2.1)).trans HX2.out.2.1) (And.intro (hqz ▸ x1) (And.intro (below_two' HX2.out.2.2 x2) (And.intro (hqz ▸ lt_blkD HX2.out.1) (And.intro (hqz ▸ lt_blkD HX2.out.2.1) (hqz ▸ HX2.out.2.2.size)))))))
  rw [hqz]
  clear hX3 x1 x2 hqz HX2
  generalize X3 = X at *
  rcases HO.out with rfl | rfl
  · go_wp2_with fail
    go_ret2
    exact ⟨rfl, HX.out.2.2.2.1⟩
  · go_wp2_with fail
    go_ret2
    exact ⟨rfl, HX.out.2.2.2.1⟩
end Go.Proofs.YteojcdpmlhlfaaaDoor
