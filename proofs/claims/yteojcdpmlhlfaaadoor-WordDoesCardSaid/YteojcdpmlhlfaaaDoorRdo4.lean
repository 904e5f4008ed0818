/- The document's answer, further ops. Condition: the numbers' range where it is named. -/
import Derived.Test.YteojcdpmlhlfaaaDoorRdo3
import Derived.LoopTactic
namespace Go.Proofs.YteojcdpmlhlfaaaDoor
open Go.RowKit
set_option maxRecDepth 100000 in
set_option maxHeartbeats 4000000 in
theorem rdo_sh8 (a b : Int) (w : World) : Calls Tryd.prog 10 #[.int .i64 8, .int .i64 a, .int .i64 b] w (RdoPost 8 a b w) := by
  go_enter Tryd.func10, Tryd.ntmps10
  go_wp2_with fail
  refine (bits_calls a w).mono ?_
  rintro e W1 ⟨rfl, hb1⟩
  have H1 := Lib.hid hb1
  clear hb1
  go_upto_region 2 with (first | (refine wpList_store_row rfl 41 _ _ rfl W1.heap.size _ rfl rfl 41 (arrC (fun _ => 0)) (heap_alloc_new W1 _) (size64 _) (by rw [arrC_size, arrC_size]) (one64 _) ?_) | fail)
  generalize hX1 : World.setRow _ _ _ = X1
  obtain ⟨x1, x2⟩ := laidC hX1
  obtain ⟨qx, hqx⟩ : ∃ q, W1.heap.size = q := ⟨_, rfl⟩
  have HX1 := Lib.hid (And.intro (hqx ▸ x1) (below_two' H1.out x2))
  rw [hqx]
  clear hX1 x1 x2 hqx H1
  go_wp2_with fail
  refine (bits_calls b X1).mono ?_
  rintro e W2 ⟨rfl, hb2⟩
  have H2 := Lib.hid (And.intro ((hb2.block qx (lt_blkD HX1.out.1)).trans HX1.out.1) (below_two' HX1.out.2 hb2))
  clear hb2 HX1
  go_upto_region 3 with (first | (refine wpList_store_row rfl 41 _ _ rfl W2.heap.size _ rfl rfl 41 (arrC (fun _ => 0)) (heap_alloc_new W2 _) (size64 _) (by rw [arrC_size, arrC_size]) (one64 _) ?_) | fail)
  generalize hX2 : World.setRow _ _ _ = X2
  obtain ⟨x1, x2⟩ := laidC hX2
  obtain ⟨qy, hqy⟩ : ∃ q, W2.heap.size = q := ⟨_, rfl⟩
  have HX2 := Lib.hid (And.intro ((x2.block qx (lt_blkD H2.out.1)).trans H2.out.1) (And.intro (hqy ▸ x1) (below_two' H2.out.2 x2)))
  rw [hqy]
  clear hX2 x1 x2 hqy H2
  go_upto_region 4 with (fail)
  generalize hX3 : World.alloc _ _ = X3
  obtain ⟨x1, x2⟩ := zeroC hX3
  obtain ⟨qz, hqz⟩ : ∃ q, X2.heap.size = q := ⟨_, rfl⟩
  have HX := Lib.hid (And.intro ((x2.block qx (lt_blkD HX2.out.1)).trans HX2.out.1) (And.intro ((x2.block qy (lt_blkD HX2.out.2.1)).trans HX2.out.2.1) (And.intro (hqz ▸ x1) (And.intro (below_two' HX2.out.2.2 x2) (And.intro (hqz ▸ lt_blkD HX2.out.1) (And.intro (hqz ▸ lt_blkD HX2.out.2.1) (hqz ▸ HX2.out.2.2.size)))))))
  rw [hqz]
  clear hX3 x1 x2 hqz HX2
  generalize X3 = X at *
  go_wp2_with fail
  go_loop [20, 21] (fun u v => ∃ (i : Int) (U : Nat), v = .int .i64 i ∧ u = .int .i64 (U : Int) ∧ Hid (-1 ≤ i ∧ i ≤ 5 ∧ (U : Int) * 2 ^ (i + 1).toNat + inum (ib b) (i + 1).toNat = inum (ib b) 6 ∧ U < 2 ^ (6 - (i + 1).toNat))) (fun _ v => (intOf v + 1).toNat)
  case atStart => exact ⟨5, 0, rfl, rfl, Lib.hid ⟨by omega, by omega, by simp, by decide⟩⟩
  case round =>
    obtain ⟨i, U, rfl, rfl, HI⟩ := hrel
    by_cases hi : 0 ≤ i
    · obtain ⟨m, rfl⟩ : ∃ m : Nat, i = (m : Int) := ⟨i.toNat, by omega⟩
      have hm : m < 6 := by have := HI.out.2.1; omega
      have qq : ¬ (m : Int) < 0 := by omega
      have m0 : 0 ≤ (m : Int) := by omega
      have m1 : (m : Int) < 64 := by omega
      have c := cellC HX.out.2.1 (show m < 64 by omega)
      have e1 : ((m : Int) + 1).toNat = m + 1 := by omega
      have h3 := HI.out.2.2.1
      have h4 := HI.out.2.2.2
      rw [e1] at h3 h4
      have hU : U < 2 ^ 6 := Nat.lt_of_lt_of_le h4 (Nat.pow_le_pow_right (by omega) (by omega))
      have hU2 : (U : Int) ≤ 64 := by omega
      have hU0 : 0 ≤ (U : Int) := by omega
      have hpw : 2 ^ (6 - m) = 2 * 2 ^ (6 - (m + 1)) := by rw [show 6 - m = 6 - (m + 1) + 1 by omega, Nat.pow_succ]; omega
      have fin : ∀ d : Nat, (d = 0 ∨ d = 1) → ib b m = (d : Int) → Hid (-1 ≤ (m : Int) - 1 ∧ (m : Int) - 1 ≤ 5 ∧ ((U * 2 + d : Nat) : Int) * 2 ^ ((m : Int) - 1 + 1).toNat + inum (ib b) ((m : Int) - 1 + 1).toNat = inum (ib b) 6 ∧ U * 2 + d < 2 ^ (6 - ((m : Int) - 1 + 1).toNat)) := fun d hd hfd => by
        have e2 : ((m : Int) - 1 + 1).toNat = m := by omega
        rw [e2]
        refine Lib.hid ⟨by omega, by omega, ?_, by rw [hpw]; omega⟩
        rw [← h3, inum, hfd, pow_succ']
        have e3 : (U : Int) * (2 ^ m * 2) = (U : Int) * 2 * 2 ^ m := by rw [Int.mul_comm (2 ^ m) 2, Int.mul_assoc]
        have e4 : ((U * 2 + d : Nat) : Int) = (U : Int) * 2 + (d : Int) := by omega
        rw [e3, e4, Int.add_mul]
        omega
      have FIN := Lib.hid fin
      clear fin h3 h4 e1 hpw hU hi HI
      rcases ib_two b m with e | e
      · rw [e] at c
        have HE := Lib.hid (FIN.out 0 (.inl rfl) e)
        clear e
        go_wp2_with fail
        go_round
        case rel => exact ⟨_, U * 2 + 0, rfl, by go_num, HE.out⟩
        case measure => simp [intOf]
      · rw [e] at c
        have HE := Lib.hid (FIN.out 1 (.inr rfl) e)
        clear e
        go_wp2_with fail
        go_round
        case rel => exact ⟨_, U * 2 + 1, rfl, by go_num, HE.out⟩
        case measure => simp [intOf]
    · obtain rfl : i = -1 := by have := HI.out.1; omega
      have h3 := HI.out.2.2.1
      rw [show ((-1 : Int) + 1).toNat = 0 from rfl, show inum (ib b) 0 = 0 from rfl, Int.pow_zero, Int.mul_one, Int.add_zero, inum_ib] at h3
      have hsh : U = sh b := by unfold sh; have : (2 : Int) ^ 6 = 64 := rfl; omega
      have hU64 : U < 64 := by unfold sh at hsh; omega
      have HS := Lib.hid hsh
      clear h3 hsh HI hi
      go_wp2_with fail
      go_loopw [22] (fun i wr => ∃ k : Nat, i = .int .i64 (k : Int) ∧ Hid (k ≤ 64 ∧ Bit64 X qz (a * 2 ^ U) k wr)) (fun v _ => 64 - (intOf v).toNat)
      case atStart => exact ⟨0, rfl, Lib.hid ⟨by omega, by simpa using HX.out.2.2.1, Only.refl _ _⟩⟩
      case round =>
        obtain ⟨k, rfl, HK⟩ := hrel
        by_cases hk : k < 64
        · have pp : ((k : Int) < 64) = True := eq_true (by omega)
          have k0 : 0 ≤ (k : Int) := by omega
          have k1 : (k : Int) < 64 := by omega
          have U1 : (U : Int) < 64 := by omega
          have U0 : 0 ≤ (U : Int) := by omega
          have cz := cellC HK.out.2.1 hk
          have fz := frozenC HK.out.2.1 k
          have HXX := Lib.hid ((HK.out.2.2.block qx (lt_blkD HX.out.1) (by have := HX.out.2.2.2.2.1; omega)).trans HX.out.1)
          by_cases hle : U ≤ k
          · obtain ⟨m, hm⟩ : ∃ m, k - U = m := ⟨_, rfl⟩
            have hsub : (k : Int) - (U : Int) = (m : Int) := by omega
            have m0 : 0 ≤ (m : Int) := by omega
            have m1 : (m : Int) < 64 := by omega
            have cx := cellC HXX.out (show m < 64 by omega)
            have HR := Lib.hid (show ib (a * 2 ^ U) k = ib a m by rw [ib_up, if_pos hle, hm])
            clear hm hle
            generalize ib a m = v at *
            go_wp2_with fail
            go_roundw
            case rel => exact ⟨k + 1, by go_num, Lib.hid ⟨by omega, HK.out.2.step _ HR.out⟩⟩
            case measure => simp [intOf]; omega
          · have hneg : ¬ 0 ≤ (k : Int) - (U : Int) := by omega
            have hneg2 : (k : Int) - (U : Int) < 0 := by omega
            have HR := Lib.hid (show ib (a * 2 ^ U) k = 0 by rw [ib_up, if_neg hle])
            clear hle
            go_wp2_with fail
            go_roundw
            case rel => exact ⟨k + 1, by go_num, Lib.hid ⟨by omega, HK.out.2.skip HR.out⟩⟩
            case measure => simp [intOf]; omega
        · obtain rfl : k = 64 := by have := HK.out.1; omega
          have hb : Below w.heap.size w wr := HX.out.2.2.2.1.trans (HK.out.2.2.below HX.out.2.2.2.1.size (fun j hj e => by have := HX.out.2.2.2.2.2.2; omega))
          have HZ := Lib.hid (And.intro HK.out.2.fin (And.intro hb (show wrap64 (inum (ib (a * 2 ^ U)) 64) = doV 8 a b by rw [number_ib (ib (a * 2 ^ U)) (a * 2 ^ U) (fun _ _ => rfl), HS.out]; rfl)))
          clear hb
          go_wp2_with (first | (refine wpList_load_row rfl 41 _ rfl qz rfl 41 _ (0, 0) _ HZ.out.1 Tryd.underlying41 rfl (size64 _) ?_) | fail)
          refine (number_calls (ib (a * 2 ^ U)) (fun i _ => ib_two (a * 2 ^ U) i) wr).mono ?_
          rintro e W9 ⟨rfl, hb9⟩
          rw [HZ.out.2.2]
          have HB9 := Lib.hid (below_two' HZ.out.2.1 hb9)
          clear hb9
          go_wp2_with fail
          go_ret2
          exact ⟨rfl, HB9.out⟩
set_option maxRecDepth 100000 in
set_option maxHeartbeats 4000000 in
theorem rdo_sh9 (a b : Int) (h0 : -9223372036854775808 ≤ a) (h1 : a ≤ 9223372036854775807) (w : World) : Calls Tryd.prog 10 #[.int .i64 9, .int .i64 a, .int .i64 b] w (RdoPost 9 a b w) := by
  have HA := Lib.hid (And.intro h0 h1)
  clear h0 h1
  go_enter Tryd.func10, Tryd.ntmps10
  go_wp2_with fail
  refine (bits_calls a w).mono ?_
  rintro e W1 ⟨rfl, hb1⟩
  have H1 := Lib.hid hb1
  clear hb1
  go_upto_region 2 with (first | (refine wpList_store_row rfl 41 _ _ rfl W1.heap.size _ rfl rfl 41 (arrC (fun _ => 0)) (heap_alloc_new W1 _) (size64 _) (by rw [arrC_size, arrC_size]) (one64 _) ?_) | fail)
  generalize hX1 : World.setRow _ _ _ = X1
  obtain ⟨x1, x2⟩ := laidC hX1
  obtain ⟨qx, hqx⟩ : ∃ q, W1.heap.size = q := ⟨_, rfl⟩
  have HX1 := Lib.hid (And.intro (hqx ▸ x1) (below_two' H1.out x2))
  rw [hqx]
  clear hX1 x1 x2 hqx H1
  go_wp2_with fail
  refine (bits_calls b X1).mono ?_
  rintro e W2 ⟨rfl, hb2⟩
  have H2 := Lib.hid (And.intro ((hb2.block qx (lt_blkD HX1.out.1)).trans HX1.out.1) (below_two' HX1.out.2 hb2))
  clear hb2 HX1
  go_upto_region 3 with (first | (refine wpList_store_row rfl 41 _ _ rfl W2.heap.size _ rfl rfl 41 (arrC (fun _ => 0)) (heap_alloc_new W2 _) (size64 _) (by rw [arrC_size, arrC_size]) (one64 _) ?_) | fail)
  generalize hX2 : World.setRow _ _ _ = X2
  obtain ⟨x1, x2⟩ := laidC hX2
  obtain ⟨qy, hqy⟩ : ∃ q, W2.heap.size = q := ⟨_, rfl⟩
  have HX2 := Lib.hid (And.intro ((x2.block qx (lt_blkD H2.out.1)).trans H2.out.1) (And.intro (hqy ▸ x1) (below_two' H2.out.2 x2)))
  rw [hqy]
  clear hX2 x1 x2 hqy H2
  go_upto_region 4 with (fail)
  generalize hX3 : World.alloc _ _ = X3
  obtain ⟨x1, x2⟩ := zeroC hX3
  obtain ⟨qz, hqz⟩ : ∃ q, X2.heap.size = q := ⟨_, rfl⟩
  have HX := Lib.hid (And.intro ((x2.block qx (lt_blkD HX2.out.1)).trans HX2.out.1) (And.intro ((x2.block qy (lt_blkD HX2.out.2.1)).trans HX2.out.2.1) (And.intro (hqz ▸ x1) (And.intro (below_two' HX2.out.2.2 x2) (And.intro (hqz ▸ lt_blkD HX2.out.1) (And.intro (hqz ▸ lt_blkD HX2.out.2.1) (hqz ▸ HX2.out.2.2.size)))))))
  rw [hqz]
  clear hX3 x1 x2 hqz HX2
  generalize X3 = X at *
  go_wp2_with fail
  go_loop [20, 21] (fun u v => ∃ (i : Int) (U : Nat), v = .int .i64 i ∧ u = .int .i64 (U : Int) ∧ Hid (-1 ≤ i ∧ i ≤ 5 ∧ (U : Int) * 2 ^ (i + 1).toNat + inum (ib b) (i + 1).toNat = inum (ib b) 6 ∧ U < 2 ^ (6 - (i + 1).toNat))) (fun _ v => (intOf v + 1).toNat)
  case atStart => exact ⟨5, 0, rfl, rfl, Lib.hid ⟨by omega, by omega, by simp, by decide⟩⟩
  case round =>
    obtain ⟨i, U, rfl, rfl, HI⟩ := hrel
    by_cases hi : 0 ≤ i
    · obtain ⟨m, rfl⟩ : ∃ m : Nat, i = (m : Int) := ⟨i.toNat, by omega⟩
      have hm : m < 6 := by have := HI.out.2.1; omega
      have qq : ¬ (m : Int) < 0 := by omega
      have m0 : 0 ≤ (m : Int) := by omega
      have m1 : (m : Int) < 64 := by omega
      have c := cellC HX.out.2.1 (show m < 64 by omega)
      have e1 : ((m : Int) + 1).toNat = m + 1 := by omega
      have h3 := HI.out.2.2.1
      have h4 := HI.out.2.2.2
      rw [e1] at h3 h4
      have hU : U < 2 ^ 6 := Nat.lt_of_lt_of_le h4 (Nat.pow_le_pow_right (by omega) (by omega))
      have hU2 : (U : Int) ≤ 64 := by omega
      have hU0 : 0 ≤ (U : Int) := by omega
      have hpw : 2 ^ (6 - m) = 2 * 2 ^ (6 - (m + 1)) := by rw [show 6 - m = 6 - (m + 1) + 1 by omega, Nat.pow_succ]; omega
      have fin : ∀ d : Nat, (d = 0 ∨ d = 1) → ib b m = (d : Int) → Hid (-1 ≤ (m : Int) - 1 ∧ (m : Int) - 1 ≤ 5 ∧ ((U * 2 + d : Nat) : Int) * 2 ^ ((m : Int) - 1 + 1).toNat + inum (ib b) ((m : Int) - 1 + 1).toNat = inum (ib b) 6 ∧ U * 2 + d < 2 ^ (6 - ((m : Int) - 1 + 1).toNat)) := fun d hd hfd => by
        have e2 : ((m : Int) - 1 + 1).toNat = m := by omega
        rw [e2]
        refine Lib.hid ⟨by omega, by omega, ?_, by rw [hpw]; omega⟩
        rw [← h3, inum, hfd, pow_succ']
        have e3 : (U : Int) * (2 ^ m * 2) = (U : Int) * 2 * 2 ^ m := by rw [Int.mul_comm (2 ^ m) 2, Int.mul_assoc]
        have e4 : ((U * 2 + d : Nat) : Int) = (U : Int) * 2 + (d : Int) := by omega
        rw [e3, e4, Int.add_mul]
        omega
      have FIN := Lib.hid fin
      clear fin h3 h4 e1 hpw hU hi HI
      rcases ib_two b m with e | e
      · rw [e] at c
        have HE := Lib.hid (FIN.out 0 (.inl rfl) e)
        clear e
        go_wp2_with fail
        go_round
        case rel => exact ⟨_, U * 2 + 0, rfl, by go_num, HE.out⟩
        case measure => simp [intOf]
      · rw [e] at c
        have HE := Lib.hid (FIN.out 1 (.inr rfl) e)
        clear e
        go_wp2_with fail
        go_round
        case rel => exact ⟨_, U * 2 + 1, rfl, by go_num, HE.out⟩
        case measure => simp [intOf]
    · obtain rfl : i = -1 := by have := HI.out.1; omega
      have h3 := HI.out.2.2.1
      rw [show ((-1 : Int) + 1).toNat = 0 from rfl, show inum (ib b) 0 = 0 from rfl, Int.pow_zero, Int.mul_one, Int.add_zero, inum_ib] at h3
      have hsh : U = sh b := by unfold sh; have : (2 : Int) ^ 6 = 64 := rfl; omega
      have hU64 : U < 64 := by unfold sh at hsh; omega
      have HS := Lib.hid hsh
      clear h3 hsh HI hi
      go_wp2_with fail
      go_loopw [22] (fun i wr => ∃ k : Nat, i = .int .i64 (k : Int) ∧ Hid (k ≤ 64 ∧ Bit64 X qz (a / 2 ^ U) k wr)) (fun v _ => 64 - (intOf v).toNat)
      case atStart => exact ⟨0, rfl, Lib.hid ⟨by omega, by simpa using HX.out.2.2.1, Only.refl _ _⟩⟩
      case round =>
        obtain ⟨k, rfl, HK⟩ := hrel
        by_cases hk : k < 64
        · have pp : ((k : Int) < 64) = True := eq_true (by omega)
          have k0 : 0 ≤ (k : Int) := by omega
          have k1 : (k : Int) < 64 := by omega
          have U1 : (U : Int) < 64 := by omega
          have U0 : 0 ≤ (U : Int) := by omega
          have cz := cellC HK.out.2.1 hk
          have fz := frozenC HK.out.2.1 k
          have HXX := Lib.hid ((HK.out.2.2.block qx (lt_blkD HX.out.1) (by have := HX.out.2.2.2.2.1; omega)).trans HX.out.1)
          by_cases hgt : 63 < k + U
          · have h63 : (63 : Int) < (k : Int) + (U : Int) := by omega
            have cx := cellC HXX.out (show 63 < 64 by omega)
            have HR := Lib.hid (show ib (a / 2 ^ U) k = ib a 63 by rw [ib_down, ib_sign HA.out.1 HA.out.2 _ (by omega)])
            clear hgt
            generalize ib a 63 = v at *
            go_wp2_with fail
            go_roundw
            case rel => exact ⟨k + 1, by go_num, Lib.hid ⟨by omega, HK.out.2.step _ HR.out⟩⟩
            case measure => simp [intOf]; omega
          · obtain ⟨m, hm⟩ : ∃ m, k + U = m := ⟨_, rfl⟩
            have hadd : (k : Int) + (U : Int) = (m : Int) := by omega
            have h63 : ¬ (63 : Int) < (m : Int) := by omega
            have m0 : 0 ≤ (m : Int) := by omega
            have m1 : (m : Int) < 64 := by omega
            have cx := cellC HXX.out (show m < 64 by omega)
            have HR := Lib.hid (show ib (a / 2 ^ U) k = ib a m by rw [ib_down, hm])
            clear hm hgt
            generalize ib a m = v at *
            go_wp2_with fail
            go_roundw
            case rel => exact ⟨k + 1, by go_num, Lib.hid ⟨by omega, HK.out.2.step _ HR.out⟩⟩
            case measure => simp [intOf]; omega
        · obtain rfl : k = 64 := by have := HK.out.1; omega
          have hb : Below w.heap.size w wr := HX.out.2.2.2.1.trans (HK.out.2.2.below HX.out.2.2.2.1.size (fun j hj e => by have := HX.out.2.2.2.2.2.2; omega))
          have HZ := Lib.hid (And.intro HK.out.2.fin (And.intro hb (show wrap64 (inum (ib (a / 2 ^ U)) 64) = doV 9 a b by rw [number_ib (ib (a / 2 ^ U)) (a / 2 ^ U) (fun _ _ => rfl), HS.out]; exact div_range HA.out.1 HA.out.2 _)))
          clear hb
          go_wp2_with (first | (refine wpList_load_row rfl 41 _ rfl qz rfl 41 _ (0, 0) _ HZ.out.1 Tryd.underlying41 rfl (size64 _) ?_) | fail)
          refine (number_calls (ib (a / 2 ^ U)) (fun i _ => ib_two (a / 2 ^ U) i) wr).mono ?_
          rintro e W9 ⟨rfl, hb9⟩
          rw [HZ.out.2.2]
          have HB9 := Lib.hid (below_two' HZ.out.2.1 hb9)
          clear hb9
          go_wp2_with fail
          go_ret2
          exact ⟨rfl, HB9.out⟩
end Go.Proofs.YteojcdpmlhlfaaaDoor
