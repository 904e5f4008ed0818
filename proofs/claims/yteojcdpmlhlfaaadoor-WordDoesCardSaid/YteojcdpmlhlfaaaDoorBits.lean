/- The document's bits of a number, and a number of bits. Condition: the number's range where it is named. -/
import Derived.Test.YteojcdpmlhlfaaaDoorRef
import Derived.Test.YteojcdpmlhlfaaaDoorArr
import Derived.LoopTactic
import Derived.Lib.Hide
import Derived.Outline
import Derived.Laws.Rows
namespace Go.Proofs.YteojcdpmlhlfaaaDoor
open Go.RowKit
/-- Sixty-four cells. -/
def arrC (f : Nat → Int) : Array Value := ((List.range 64).map (fun i => .int .i64 (f i))).toArray
theorem arrC_size (f : Nat → Int) : (arrC f).size = 64 := by simp [arrC]
theorem arrC_get (f : Nat → Int) {i : Nat} (hi : i < 64) : (arrC f)[i]? = some (.int .i64 (f i)) := by
  unfold arrC
  rw [List.getElem?_toArray, List.getElem?_map, List.getElem?_range hi]
  rfl
theorem arrC_set (f : Nat → Int) (i : Nat) (v : Int) : (arrC f).setIfInBounds i (.int .i64 v) = arrC (fun j => if j = i then v else f j) := by
  apply Array.ext_getElem?
  intro j
  rw [Array.getElem?_setIfInBounds]
  by_cases hj : j < 64
  · rw [arrC_get _ hj, arrC_get _ hj, arrC_size]
    by_cases e : i = j
    · subst e; simp [hj]
    · have e' : ¬ j = i := fun h => e h.symm
      simp [e, e']
  · rw [Array.getElem?_eq_none (by rw [arrC_size]; omega), Array.getElem?_eq_none (by rw [arrC_size]; omega), arrC_size]
    by_cases e : i = j
    · subst e; simp [hj]
    · simp [e]
theorem arrC_congr {f g : Nat → Int} (h : ∀ i, i < 64 → f i = g i) : arrC f = arrC g := by
  unfold arrC
  congr 1
  apply List.map_congr_left
  intro i hi
  rw [h i (List.mem_range.1 hi)]
theorem cellC {w : World} {q : Nat} {f : Nat → Int} (h : w.heap[q]? = some (.cells (arrC f) 41 (0, 0))) {i : Nat} (hi : i < 64) : w.cell? ⟨q, i, none⟩ = some (.int .i64 (f i)) := by
  rw [cell_of_blk _ _ _ _ _ h, arrC_get f hi]
theorem frozenC {w : World} {q : Nat} {f : Nat → Int} (h : w.heap[q]? = some (.cells (arrC f) 41 (0, 0))) (i : Nat) : w.frozen? ⟨q, i, none⟩ = false := by
  simp [World.frozen?, h]
theorem setC {w : World} {q : Nat} {f : Nat → Int} (h : w.heap[q]? = some (.cells (arrC f) 41 (0, 0))) (i : Nat) (v : Int) : (w.setCell ⟨q, i, none⟩ (.int .i64 v)).heap[q]? = some (.cells (arrC (fun j => if j = i then v else f j)) 41 (0, 0)) := by
  rw [← arrC_set]
  simp [World.setCell, Array.getElem?_modify, h]
theorem size64 (f : Nat → Int) : (Tryd.prog.info? 41).map (·.size) = some (arrC f).size := by rw [arrC_size]; kernel_rfl
theorem one64 (f : Nat → Int) : (arrC f).all (·.oneCell') = true := by
  rw [Array.all_eq_true_iff_forall_mem]
  intro v hv
  simp [arrC] at hv
  obtain ⟨i, _, rfl⟩ := hv
  rfl
/-- A number's 64 bits, without a sign. -/
def uN (a : Int) : Nat := (a % 2 ^ 64).toNat
theorem uN_cast (a : Int) : ((uN a : Nat) : Int) = a % 2 ^ 64 := by unfold uN; omega
theorem ib_uN (a : Int) (i : Nat) (hi : i < 64) : ib a i = ((uN a / 2 ^ i % 2 : Nat) : Int) := by
  rw [← ib_mod a i hi, ← uN_cast]
  unfold ib
  rw [Int.natCast_emod, Int.natCast_ediv, Int.natCast_pow]
  rfl
theorem wrap_uN (a : Int) : IntKind.u64.wrap a = ((uN a : Nat) : Int) := by
  rw [uN_cast]; simp [IntKind.wrap, IntKind.bits, IntKind.signed]
theorem twoD {w X : World} {o0 o1 : Obj} (h : (w.alloc o0).alloc o1 = X) :
    X.heap[w.heap.size]? = some o0 ∧ X.heap[w.heap.size + 1]? = some o1 ∧ X.heap.size = w.heap.size + 2 ∧ Below w.heap.size w X := by
  subst h
  have n1 := heap_alloc_new (w.alloc o0) o1
  simp only [World.size_alloc] at n1
  exact ⟨(Below.heap_alloc (w.alloc o0) o1 _ (by simp)).trans (heap_alloc_new w o0), n1, by simp, ((Below.refl _ _).alloc (Nat.le_refl _) _).alloc (by simp) _⟩
set_option maxRecDepth 100000 in
theorem bits_calls (a : Int) (w : World) : Calls Tryd.prog 18 #[.int .i64 a] w fun e w' => e = .returned (.agg (arrC (ib a))) ∧ Below w.heap.size w w' := by
  go_enter Tryd.func18, Tryd.ntmps18
  go_wp2_with fail
  generalize hX : World.alloc (World.alloc w _) _ = X
  obtain ⟨y0, y1, yz, yb⟩ := twoD hX
  have y0' : X.heap[w.heap.size]? = some (.cells (arrC (fun _ => 0)) 41 (0, 0)) := y0
  have y1' : X.heap[w.heap.size + 1]? = some (.cells (arrC (fun _ => 0)) 41 (0, 0)) := y1
  have HX := Lib.hid (And.intro y0' (And.intro y1' (And.intro yz yb)))
  clear y0 y1 y0' y1' yz yb hX
  rw [wrap_uN]
  obtain ⟨q, hq⟩ : ∃ q, w.heap.size = q := ⟨_, rfl⟩
  obtain ⟨q1, hq1⟩ : ∃ k, q + 1 = k := ⟨_, rfl⟩
  rw [hq] at HX ⊢
  rw [hq1] at HX ⊢
  have HQ := Lib.hid (And.intro hq hq1)
  clear hq hq1
  go_loopw [4, 5] (fun u v wr => ∃ i : Nat, v = .int .i64 (i : Int) ∧ u = .int .u64 ((uN a / 2 ^ i : Nat) : Int) ∧ Hid (i ≤ 64 ∧ wr.heap[q1]? = some (.cells (arrC (fun j => if j < i then ib a j else 0)) 41 (0, 0)) ∧ Only (fun k => k = q1) X wr)) (fun _ v _ => 64 - (intOf v).toNat)
  case atStart => exact ⟨0, rfl, by simp, Lib.hid ⟨by omega, by simpa using HX.out.2.1, Only.refl _ _⟩⟩
  case round =>
    obtain ⟨i, rfl, rfl, HI⟩ := hrel
    by_cases hi : i < 64
    · have pp : ((i : Int) < 64) = True := eq_true (by omega)
      have i0 : 0 ≤ (i : Int) := by omega
      have i1 : (i : Int) < 64 := by omega
      have c := cellC HI.out.2.1 hi
      have f := frozenC HI.out.2.1 i
      have hs := setC HI.out.2.1 i (ib a i)
      have ho := HI.out.2.2.trans (Only.setCell wr ⟨q1, i, none⟩ (.int .i64 (ib a i))) (fun _ _ e => e)
      have hib := ib_uN a i hi
      obtain ⟨y, hy⟩ : ∃ y, uN a / 2 ^ i = y := ⟨_, rfl⟩
      rw [hy] at hib ⊢
      have hy2 : uN a / 2 ^ (i + 1) = y / 2 := by rw [Nat.pow_succ, ← Nat.div_div_eq_div_mul, hy]
      have hyb : y < 2 ^ 64 := by
        have h1 : uN a < 2 ^ 64 := by have := uN_cast a; omega
        rw [← hy]
        exact Nat.lt_of_le_of_lt (Nat.div_le_self _ _) h1
      rw [hib, show ((y % 2 : Nat) : Int) = (y : Int) % 2 by omega] at hs ho
      have HH := Lib.hid (And.intro hs (And.intro ho (And.intro hib hy2)))
      clear hs ho hib hy hy2
      go_wp2_with fail
      refine ⟨⟨i + 1, by go_num, by rw [HH.out.2.2.2, Int.natCast_ediv]; rfl, Lib.hid ⟨by omega, ?_, HH.out.2.1⟩⟩, by simp [intOf]; omega⟩
      rw [HH.out.1]
      congr 2
      refine arrC_congr (fun j _ => ?_)
      by_cases e : j = i
      · subst e
        simp [HH.out.2.2.1]
      · have e2 : j < i + 1 ↔ j < i := by omega
        simp [e, e2]
    · obtain rfl : i = 64 := by have := HI.out.1; omega
      have h1 : wr.heap[q1]? = some (.cells (arrC (ib a)) 41 (0, 0)) := by
        rw [HI.out.2.1, arrC_congr (f := fun j => if j < 64 then ib a j else 0) (g := ib a) (fun j hj => by simp [hj])]
      have hqq : q < X.heap.size := by have := HX.out.2.2.1; omega
      have h0 : wr.heap[q]? = some (.cells (arrC (fun _ => 0)) 41 (0, 0)) := (HI.out.2.2.block q hqq (by have := HQ.out.2; omega)).trans HX.out.1
      have hb : Below q w wr := HX.out.2.2.2.trans (HI.out.2.2.below (by omega) (fun k hk e => by have := HQ.out.2; omega))
      have HH := Lib.hid (And.intro h1 (And.intro h0 hb))
      clear h1 h0 hb
      go_wp2_with (first
        | (refine wpList_load_row rfl 41 _ rfl q1 rfl 41 _ (0, 0) _ HH.out.1 Tryd.underlying41 rfl (size64 _) ?_)
        | (refine wpList_store_row rfl 41 _ _ rfl q _ rfl rfl 41 _ HH.out.2.1 (size64 _) (by rw [arrC_size, arrC_size]) (one64 _) ?_)
        | fail)
      have hr := setRow_heap wr q _ (arrC (ib a)) 41 (0, 0) HH.out.2.1
      refine bodyPost_ret (v := .agg (arrC (ib a))) (results_cell_row Tryd.results18 _ _ q 41 _ (0, 0) _ (by simp) hr Tryd.underlying41 rfl (size64 _)) rfl ⟨rfl, ?_⟩
      rw [HQ.out.1]
      exact HH.out.2.2.trans ⟨rfl, rfl, rfl, by simp, fun k hk => setRow_other _ _ _ _ (by omega)⟩
/-- A number of bits. -/
theorem number_calls (f : Nat → Int) (hf : ∀ i, i < 64 → f i = 0 ∨ f i = 1) (w : World) : Calls Tryd.prog 19 #[.agg (arrC f)] w fun e w' => e = .returned (.int .i64 (wrap64 (inum f 64))) ∧ Below w.heap.size w w' := by
  go_enter Tryd.func19, Tryd.ntmps19
  go_wp2_with fail
  generalize hX : World.alloc w _ = X
  obtain ⟨q, hq⟩ : ∃ q, w.heap.size = q := ⟨_, rfl⟩
  have hx : X.heap[q]? = some (.cells (arrC f) 41 (0, 0)) := by rw [← hX, ← hq]; exact heap_alloc_new w _
  have HX := Lib.hid (show Below w.heap.size w X by rw [← hX]; exact (Below.refl _ _).alloc (Nat.le_refl _) _)
  have HC := Lib.hid hx
  have HF := Lib.hid hf
  rw [hq]
  clear hX hq hx hf
  go_loop [3, 4] (fun u v => ∃ (i : Int) (U : Nat), v = .int .i64 i ∧ u = .int .u64 (U : Int) ∧ Hid (-1 ≤ i ∧ i ≤ 63 ∧ (U : Int) * 2 ^ (i + 1).toNat + inum f (i + 1).toNat = inum f 64 ∧ U < 2 ^ (64 - (i + 1).toNat))) (fun _ v => (intOf v + 1).toNat)
  case atStart => exact ⟨63, 0, rfl, rfl, Lib.hid ⟨by omega, by omega, by simp, by decide⟩⟩
  case round =>
    obtain ⟨i, U, rfl, rfl, HI⟩ := hrel
    by_cases hi : 0 ≤ i
    · obtain ⟨m, rfl⟩ : ∃ m : Nat, i = (m : Int) := ⟨i.toNat, by omega⟩
      have hm : m < 64 := by have := HI.out.2.1; omega
      have qq : ¬ (m : Int) < 0 := by omega
      have m0 : 0 ≤ (m : Int) := by omega
      have m1 : (m : Int) < 64 := by omega
      have c := cellC HC.out hm
      have e1 : ((m : Int) + 1).toNat = m + 1 := by omega
      have h3 := HI.out.2.2.1
      have h4 := HI.out.2.2.2
      rw [e1] at h3 h4
      have hU : U < 2 ^ 63 := Nat.lt_of_lt_of_le h4 (Nat.pow_le_pow_right (by omega) (by omega))
      have hU2 : (U : Int) ≤ 9223372036854775807 := by omega
      have hU0 : 0 ≤ (U : Int) := by omega
      have hpw : 2 ^ (64 - m) = 2 * 2 ^ (64 - (m + 1)) := by rw [show 64 - m = 64 - (m + 1) + 1 by omega, Nat.pow_succ]; omega
      have fin : ∀ d : Nat, (d = 0 ∨ d = 1) → f m = (d : Int) → Hid (-1 ≤ (m : Int) - 1 ∧ (m : Int) - 1 ≤ 63 ∧ ((U * 2 + d : Nat) : Int) * 2 ^ ((m : Int) - 1 + 1).toNat + inum f ((m : Int) - 1 + 1).toNat = inum f 64 ∧ U * 2 + d < 2 ^ (64 - ((m : Int) - 1 + 1).toNat)) := fun d hd hfd => by
        have e2 : ((m : Int) - 1 + 1).toNat = m := by omega
        rw [e2]
        refine Lib.hid ⟨by omega, by omega, ?_, by rw [hpw]; omega⟩
        rw [← h3, inum, hfd, pow_succ']
        have e3 : (U : Int) * (2 ^ m * 2) = (U : Int) * 2 * 2 ^ m := by rw [Int.mul_comm (2 ^ m) 2, Int.mul_assoc]
        have e4 : ((U * 2 + d : Nat) : Int) = (U : Int) * 2 + (d : Int) := by omega
        rw [e3, e4, Int.add_mul]
        omega
      have FIN := Lib.hid fin
      clear fin h3 h4 e1 hpw hU hi HI
      rcases HF.out m hm with e | e
      · rw [e] at c
        have HE := Lib.hid (FIN.out 0 (.inl rfl) e)
        clear e
        go_wp2_with fail
        go_round
        case rel => exact ⟨_, U * 2 + 0, rfl, by go_num, HE.out⟩
        case measure => simp [intOf]
      · rw [e] at c
        have HE := Lib.hid (FIN.out 1 (.inr rfl) e)
        clear e
        go_wp2_with fail
        go_round
        case rel => exact ⟨_, U * 2 + 1, rfl, by go_num, HE.out⟩
        case measure => simp [intOf]
    · obtain rfl : i = -1 := by have := HI.out.1; omega
      have h3 := HI.out.2.2.1
      rw [show ((-1 : Int) + 1).toNat = 0 from rfl, show inum f 0 = 0 from rfl, Int.pow_zero, Int.mul_one, Int.add_zero] at h3
      have H3 := Lib.hid h3
      clear h3 HI
      go_wp2_with fail
      go_ret
      exact ⟨by rw [← H3.out]; rfl, HX.out⟩
end Go.Proofs.YteojcdpmlhlfaaaDoor
