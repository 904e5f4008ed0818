/- What refinerylaw01.WordDoes' walk comes to: each op, of any two numbers. Condition: the table's last cell holds "lt". -/
import Derived.Test.YteojcdpmlhlfaaaDoorRdo4
import Derived.Test.YteojcdpmlhlfaaaDoorShifts
namespace Go.Proofs.YteojcdpmlhlfaaaDoor
open Go.RowKit
theorem tmod_range (a b : Int) (h0 : -9223372036854775808 ≤ a) (h1 : a ≤ 9223372036854775807) : wrap64 (a.tmod b) = a.tmod b := by
  have h : -9223372036854775808 ≤ a.tmod b ∧ a.tmod b ≤ 9223372036854775807 := by
    have hn : (a.tmod b).natAbs ≤ a.natAbs := by rw [Int.natAbs_tmod]; exact Nat.mod_le _ _
    by_cases hs : 0 ≤ a
    · have := Int.tmod_nonneg b hs; omega
    · have : 0 ≤ (-a).tmod b := Int.tmod_nonneg b (by omega)
      rw [Int.neg_tmod] at this
      omega
  unfold wrap64; omega
theorem rem_eq (a b : Int) (h0 : -9223372036854775808 ≤ a) (h1 : a ≤ 9223372036854775807) : wrap64 (a - wrap64 (b * wrap64 (a.tdiv b))) = a.tmod b := by
  rw [Int.mul_comm b, wrap_mul, ← tmod_range a b h0 h1]
  have h := Int.tdiv_mul_add_tmod a b
  generalize a.tdiv b * b = x at *
  generalize a.tmod b = y at *
  unfold wrap64; omega
theorem rdo_any (o a b : Int) (w : World) (h0 : 0 ≤ o) (h1 : o < 14) (ha0 : -9223372036854775808 ≤ a) (ha1 : a ≤ 9223372036854775807) : Calls Tryd.prog 10 #[.int .i64 o, .int .i64 a, .int .i64 b] w (RdoPost o a b w) := by
  have key : ∀ {v k}, doV o a b = v → doK o b = k → (Calls Tryd.prog 10 #[.int .i64 o, .int .i64 a, .int .i64 b] w fun e w' => e = .returned (.tuple #[.int .i64 v, .bool k]) ∧ Below w.heap.size w w') → Calls Tryd.prog 10 #[.int .i64 o, .int .i64 a, .int .i64 b] w (RdoPost o a b w) := by
    intro v k e1 e2 h; unfold RdoPost; rw [e1, e2]; exact h
  have : o = 0 ∨ o = 1 ∨ o = 2 ∨ o = 3 ∨ o = 4 ∨ o = 5 ∨ o = 6 ∨ o = 7 ∨ o = 8 ∨ o = 9 ∨ o = 10 ∨ o = 11 ∨ o = 12 ∨ o = 13 := by omega
  rcases this with rfl | rfl | rfl | rfl | rfl | rfl | rfl | rfl | rfl | rfl | rfl | rfl | rfl | rfl
  · exact rdo_add a b w
  · exact rdo_sub a b w
  · exact rdo_mul a b w
  · by_cases hb : b = 0
    · exact key (by simp [doV, hb]) (by simp [doK, hb]) (izero_calls 3 (.inl rfl) a b hb w)
    · exact key (by simp [doV, hb]) (by simp [doK, hb]) (idiv_calls a b w hb (by simp [hb]))
  · by_cases hb : b = 0
    · exact key (by simp [doV, hb]) (by simp [doK, hb]) (izero_calls 4 (.inr rfl) a b hb w)
    · refine key (v := a.tmod b) (k := true) (by simp [doV, hb]) (by simp [doK, hb]) ?_
      rw [← rem_eq a b ha0 ha1]
      exact irem_calls a b w hb (by simp [hb])
  · exact rdo_and a b w
  · exact rdo_or a b w
  · exact rdo_xor a b w
  · exact rdo_sh8 a b w
  · exact rdo_sh9 a b ha0 ha1 w
  · exact eq_calls a b w
  · exact less_calls a b w
  · exact key (by simp [doV]) (by simp [doK]) (none_calls 12 a b (.inl rfl) w)
  · exact key (by simp [doV]) (by simp [doK]) (none_calls 13 a b (.inr rfl) w)
set_option maxRecDepth 100000 in
set_option maxHeartbeats 4000000 in
theorem does (a b s : Int) (p : Nat) (ha0 : -9223372036854775808 ≤ a) (ha1 : a ≤ 9223372036854775807) (hp : p ≤ 255) (w : World) (h : w.cell? ⟨0, 11, none⟩ = some (.string ⟨#[108, 116]⟩)) :
    Calls Tryd.prog 3 #[.int .i64 a, .int .i64 b, .int .i8 s, .int .u8 (p : Int)] w fun e w' => e = .returned (.bool true) ∧ Below w.heap.size w w' := by
  have HA := Lib.hid (And.intro ha0 ha1)
  clear ha0 ha1
  go_enter Tryd.func3, Tryd.ntmps3
  go_wp2_with (first | (go_at_call 8; refine (awake _ h).mono ?_; rintro e w' ⟨rfl, rfl⟩) | fail)
  clear h
  go_loopw [20] (fun v wr => ∃ o : Nat, v = .int .i64 (o : Int) ∧ Hid (o ≤ 14 ∧ Below w.heap.size w wr)) (fun v _ => 14 - (intOf v).toNat)
  case atStart => exact ⟨0, rfl, Lib.hid ⟨by omega, Below.refl _ _⟩⟩
  case round =>
    obtain ⟨wo, rfl⟩ : ∃ x : World, x = wr := ⟨_, rfl⟩
    obtain ⟨o, rfl, HO⟩ := hrel
    by_cases ho : o < 14
    · have pp : ((o : Int) < 14) = True := eq_true (by omega)
      have o0 : 0 ≤ (o : Int) := by omega
      have o1 : (o : Int) < 14 := by omega
      go_wp2_with fail
      generalize hX : World.alloc wo _ = X
      obtain ⟨q, hq⟩ : ∃ q, wo.heap.size = q := ⟨_, rfl⟩
      have hx : X.heap[q]? = some (.cells #[.int .i64 b, .int .i64 (wrap64 s), .int .i64 0, .int .i64 (-1)] 2 (0, 0)) := by rw [← hX, ← hq]; exact heap_alloc_new wo _
      have hbx : Below w.heap.size w X := below_two' HO.out.2 (by rw [← hX]; exact (Below.refl _ _).alloc (Nat.le_refl _) _)
      have HX := Lib.hid (And.intro hx hbx)
      rw [hq]
      clear hX hq hx hbx
      go_loopw [28] (fun v wr => ∃ i : Nat, v = .int .i64 (i : Int) ∧ Hid (i ≤ 4 ∧ Below X.heap.size X wr)) (fun v _ => 4 - (intOf v).toNat)
      case atStart => exact ⟨0, rfl, Lib.hid ⟨by omega, Below.refl _ _⟩⟩
      case round =>
        obtain ⟨wi, rfl⟩ : ∃ x : World, x = wr := ⟨_, rfl⟩
        obtain ⟨i, rfl, HI⟩ := hrel
        by_cases hi : i < 4
        · have pp2 : ((i : Int) < 4) = True := eq_true (by omega)
          have i0 : 0 ≤ (i : Int) := by omega
          have i1 : (i : Int) < 4 := by omega
          have hr := (HI.out.2.block q (lt_blkD HX.out.1)).trans HX.out.1
          obtain ⟨y, hy⟩ : ∃ y : Int, wi.cell? ⟨q, i, none⟩ = some (.int .i64 y) := by
            rw [cell_of_blk _ _ _ _ _ hr]
            have : i = 0 ∨ i = 1 ∨ i = 2 ∨ i = 3 := by omega
            rcases this with rfl | rfl | rfl | rfl <;> exact ⟨_, rfl⟩
          have hou : IntKind.u8.wrap (o : Int) = (o : Int) := by simp [IntKind.wrap, IntKind.bits, IntKind.signed]; omega
          clear hr
          go_wp2_with fail
          refine (do_any (o : Int) a y wi o0).mono ?_
          rintro e w1 ⟨rfl, rfl⟩
          go_wp2_with fail
          refine (rdo_any (o : Int) a y wi o0 o1 HA.out.1 HA.out.2).mono ?_
          rintro e w2 ⟨rfl, hb2⟩
          have HB2 := Lib.hid (below_two' HI.out.2 hb2)
          clear hb2 hy
          generalize doV (o : Int) a y = n at *
          generalize doK (o : Int) y = m at *
          have q1 : (n != n) = false := by simp
          have q2 : (m != m) = false := by simp
          go_wp2_with fail
          go_roundw
          case rel => exact ⟨i + 1, by go_num, Lib.hid ⟨by omega, HB2.out⟩⟩
          case measure => simp [intOf]; omega
        · obtain rfl : i = 4 := by have := HI.out.1; omega
          have HB3 := Lib.hid (below_two' HX.out.2 HI.out.2)
          go_wp2_with fail
          go_roundw
          case rel => exact ⟨o + 1, by go_num, Lib.hid ⟨by omega, HB3.out⟩⟩
          case measure => simp [intOf]; omega
    · obtain rfl : o = 14 := by have := HO.out.1; omega
      go_wp2_with fail
      refine (do_z (12 + (p : Int) % 200) a b (by omega) wo).mono ?_
      rintro e w1 ⟨rfl, rfl⟩
      go_wp2_with fail
      go_ret
      exact ⟨rfl, HO.out.2⟩
theorem does_int (a b s x : Int) (ha : -9223372036854775808 ≤ a ∧ a ≤ 9223372036854775807) (hx : 0 ≤ x ∧ x ≤ 255) (w : World) (h : w.cell? ⟨0, 11, none⟩ = some (.string ⟨#[108, 116]⟩)) :
    Calls Tryd.prog 3 #[.int .i64 a, .int .i64 b, .int .i8 s, .int .u8 x] w fun e w' => e = .returned (.bool true) ∧ Below w.heap.size w w' := by
  obtain ⟨p, rfl⟩ : ∃ p : Nat, x = (p : Int) := ⟨x.toNat, by omega⟩
  exact does a b s p ha.1 ha.2 (by omega) w h
end Go.Proofs.YteojcdpmlhlfaaaDoor
