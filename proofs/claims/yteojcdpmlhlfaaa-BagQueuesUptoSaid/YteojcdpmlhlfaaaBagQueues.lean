/- What refinerylaw02.BagQueues' walk comes to. Conditions: the acts' cells hold small numbers. -/
import Derived.Test.YteojcdpmlhlfaaaQueueB
import Derived.Test.YteojcdpmlhlfaaaIndexB
import Derived.Test.YteojcdpmlhlfaaaAwake
import Derived.Test.YteojcdpmlhlfaaaOpen
namespace Go.Proofs.Yteojcdpmlhlfaaa
open Go.RowKit QB

/-- What holds between two acts. -/
structure QInv (w wr : World) (B p : Nat) (F : Nat → Prop) (v : Value) (l : List Int) : Prop where
  queue : QueueAt wr B p F l
  row : RowAt wr B 5 v (l.map (Value.int .u8))
  apart : ∀ g, v.ownBlock = some g → ¬ F g
  below : Below B w wr
set_option maxRecDepth 100000 in
set_option maxHeartbeats 4000000 in
theorem queues_walk (A : Option Addr) (n c : Nat) (w : World) (hn : (decide ((100 : Int) < (n : Int))) = false) (hn' : n ≤ 100)
    (hA : ∀ k, k < n → ∃ g o a b d, A = some ⟨g, o, none⟩ ∧ g < w.heap.size ∧ w.cell? ⟨g, o + k * 3, none⟩ = some (.int .u8 a) ∧ w.cell? ⟨g, o + k * 3 + 1, none⟩ = some (.int .u8 b) ∧ w.cell? ⟨g, o + k * 3 + 2, none⟩ = some (.int .u8 d) ∧ (0 ≤ a ∧ a ≤ 255) ∧ (0 ≤ b ∧ b ≤ 255) ∧ 0 ≤ d ∧ d ≤ 255) :
    Calls Try.prog 6 #[.slice A n c] w fun e w' => e = .returned (.bool true) ∧ Below w.heap.size w w' := by
  have HA := Lib.hid hA; clear hA
  go_enter Try.func6, Try.ntmps6
  go_wp2_with fail
  refine (awake _).mono ?_
  rintro e w1 ⟨rfl, hb1⟩
  have HB1 := Lib.hid hb1; clear hb1
  go_wp2
  obtain ⟨W1, hW1⟩ : ∃ W1, W1 = w1.alloc (.cells #[.slice none 0 0, .map none] 58) := ⟨_, rfl⟩
  have hinv : QInv w W1 w.heap.size w1.heap.size (fun k => k = w1.heap.size) (.slice none 0 0) [] := by
    rw [hW1]
    exact ⟨QueueAt.new w1 _ HB1.out.size, .inl ⟨rfl, rfl⟩, (fun g hg => by cases hg), HB1.out.alloc HB1.out.size _⟩
  rw [← hW1]
  clear hW1
  have hBp : w.heap.size ≤ w1.heap.size := HB1.out.size
  clear HB1
  generalize w1.heap.size = p at *
  obtain ⟨B, HB⟩ : ∃ B, Hid (w.heap.size = B) := ⟨_, rfl⟩
  rw [HB.out] at hinv hBp
  have HINV := Lib.hid hinv; clear hinv
  obtain ⟨w0, rfl⟩ : ∃ w0 : World, w0 = W1 := ⟨_, rfl⟩
  go_loopw [4, 18] (fun r i wr => ∃ (k : Nat) (F : Nat → Prop) (l : List Int), k ≤ n ∧ i = .int .i64 k ∧ l.length ≤ k ∧ Hid (QInv w wr B p F r l)) (fun _ i _ => n - (intOf i).toNat)
  case atStart => exact ⟨0, _, [], by omega, rfl, by simp, HINV⟩
  case round =>
    obtain ⟨k, F, l, hk, rfl, hlk, hI⟩ := hrel
    by_cases hlt : k < n
    · obtain ⟨g, o, a, b, d, rfl, hgl, c0, c1, c2, a01, b01, d01⟩ := HA.out k hlt
      rw [HB.out] at hgl
      have e0 := (hI.out.below.cell (p := ⟨g, o + k * 3, none⟩) hgl).trans c0
      have e1 := (hI.out.below.cell (p := ⟨g, o + k * 3 + 1, none⟩) hgl).trans c1
      have e2 := (hI.out.below.cell (p := ⟨g, o + k * 3 + 2, none⟩) hgl).trans c2
      clear c0 c1 c2
      have hI2 : Hid (QInv w (wr.alloc (.cells #[.int .u8 a, .int .u8 b, .int .u8 d] 29)) B p F u4 l) := by
        have h := hI.out
        have ho := Only.alloc (fun _ => False) wr (.cells #[.int .u8 a, .int .u8 b, .int .u8 d] 29)
        exact ⟨h.queue.only ho (fun _ _ => id), RowAt.only ho h.row (fun _ _ => id), h.apart, h.below.alloc (by have := h.below.size; have := HB.out; omega) _⟩
      have hBw : B ≤ (wr.alloc (.cells #[.int .u8 a, .int .u8 b, .int .u8 d] 29)).heap.size := by have := hI2.out.below.size; have := HB.out; omega
      obtain ⟨W2, hW2⟩ : ∃ W2, W2 = wr.alloc (.cells #[.int .u8 a, .int .u8 b, .int .u8 d] 29) := ⟨_, rfl⟩
      have hh2 : W2.heap[wr.heap.size]? = some (.cells #[.int .u8 a, .int .u8 b, .int .u8 d] 29 (0, 0)) := by rw [hW2]; exact heap_alloc_new wr _
      rw [← hW2] at hI2 hBw
      obtain ⟨x, hx⟩ : ∃ x, b % 12 = x := ⟨_, rfl⟩
      by_cases hk3 : a % 3 = 0
      · have hk3' : (a % 3 == 0) = true := by simp [hk3]
        clear hk3
        cases l with
        | nil =>
          obtain ⟨A', c', rfl⟩ := hI2.out.row.slice
          simp only [List.map_nil, List.length_nil] at hI2
          go_wp2_with fail
          rw [← hW2]
          clear hW2 hh2 hI e0 e1 e2
          generalize wr.heap.size = r at *
          refine (take_none hI2.out.queue).mono ?_
          rintro e w' ⟨rfl, rfl⟩
          have HLEN := Lib.hid (len hI2.out.queue)
          go_wp2_with fail
          refine HLEN.out.mono ?_
          rintro e w' ⟨rfl, rfl⟩
          clear HLEN
          simp only [List.length_nil]
          go_wp2
          go_roundw
          case rel => exact ⟨k + 1, F, [], by omega, by go_num, by simp, hI2⟩
          case measure => simp [intOf]; omega
        | cons y l =>
          rcases hI2.out.row.form with ⟨_, h⟩ | ⟨g', o', c', rfl, hlc⟩
          · simp at h
          simp only [List.map_cons, List.length_cons, List.length_map] at hI2 hlc hlk
          go_wp2_with fail
          rw [← hW2]
          clear hW2 hh2 hI e0 e1 e2
          generalize wr.heap.size = r at *
          refine (take_some hI2.out.queue).mono ?_
          rintro e W3 ⟨rfl, hq3, ho3⟩
          have hr3 := RowAt.only ho3 hI2.out.row (fun g hg => hI2.out.apart g hg)
          have hcell := hr3.cell 0 _ rfl
          simp only [Nat.add_zero] at hcell
          have hb3 := hI2.out.below.trans (ho3.below hBw (fun k hk h => by have := (hI2.out.queue.foot k h).1; omega))
          have HLEN := Lib.hid (len hq3)
          have hap := hI2.out.apart g' rfl
          have HNEXT : ∀ o2, o2 = (if c' = 1 then o' else o' + 1) → Hid (QInv w W3 B p F (.slice (some ⟨g', o2, none⟩) l.length (c' - 1)) l) := fun o2 ho2 => by
            have hr4 := RowAt.tail hr3 o2 ho2
            simp only [List.length_map] at hr4
            exact ⟨hq3, hr4, (fun g'' hg'' => by simp only [Value.ownBlock, Option.some.injEq] at hg''; subst hg''; exact hap), hb3⟩
          have HN := Lib.hid HNEXT
          have HQ := Lib.hid hq3
          clear HNEXT hr3 ho3 hb3 hI2 hap hq3
          by_cases hc1 : c' = 1
          · subst hc1
            have hl0 : l = [] := List.eq_nil_of_length_eq_zero (by omega)
            subst hl0
            have HI5 := HN.out o' (by simp)
            simp only [List.length_nil, Nat.sub_self, Nat.zero_add] at hlc hlk HI5
            clear HN
            go_wp2_with fail
            refine HLEN.out.mono ?_
            rintro e w' ⟨rfl, rfl⟩
            clear HLEN
            simp only [List.length_nil]
            go_wp2
            go_roundw
            case rel => exact ⟨k + 1, F, [], by omega, by go_num, by simp, HI5⟩
            case measure => simp [intOf]; omega
          · have HI5 := HN.out (o' + 1) (by simp [hc1])
            clear HN
            go_wp2_with fail
            refine HLEN.out.mono ?_
            rintro e w' ⟨rfl, rfl⟩
            clear HLEN
            go_wp2
            go_roundw
            case rel => exact ⟨k + 1, F, l, by omega, by go_num, by omega, HI5⟩
            case measure => simp [intOf]; omega
      · have hk3' : (a % 3 == 0) = false := by simp [hk3]
        clear hk3
        go_wp2_with fail
        rw [hx, ← hW2]
        clear hW2 hh2 hI e0 e1 e2 hx
        generalize wr.heap.size = r at *
        refine (contains x hI2.out.row).mono ?_
        rintro e w' ⟨rfl, rfl⟩
        by_cases hxl : x ∈ l
        · have hd : decide (x ∈ l) = true := decide_eq_true hxl
          rw [hd]
          clear hd
          go_wp2_with fail
          refine (put_old hI2.out.queue x hxl).mono ?_
          rintro e w' ⟨rfl, rfl⟩
          have HLEN := Lib.hid (len hI2.out.queue)
          obtain ⟨A', c', rfl⟩ := hI2.out.row.slice
          simp only [List.length_map] at hI2
          go_wp2_with fail
          refine HLEN.out.mono ?_
          rintro e w' ⟨rfl, rfl⟩
          clear HLEN
          go_wp2
          go_roundw
          case rel => exact ⟨k + 1, F, l, by omega, by go_num, by omega, hI2⟩
          case measure => simp [intOf]; omega
        · have hd : decide (x ∈ l) = false := decide_eq_false hxl
          rw [hd]
          clear hd
          go_wp2_with fail
          refine (put_new hI2.out.queue x hxl (by omega) hBw).mono ?_
          rintro e W3 ⟨rfl, hq3, ho3⟩
          have hr3 := RowAt.only ho3 hI2.out.row (fun g hg => hI2.out.apart g hg)
          have hb3 := hI2.out.below.trans (ho3.below hBw (fun k hk h => by have := (hI2.out.queue.foot k h).1; omega))
          have hap : ∀ g, u4.ownBlock = some g → ¬ (F g ∨ (W2.heap.size ≤ g ∧ g < W3.heap.size)) := fun g hg h => by
            rcases h with h | h
            · exact hI2.out.apart g hg h
            · have := (hI2.out.row.lt hg).1; omega
          obtain ⟨i, hi, hz0, hz1, hz2⟩ := info_parts infoB
          have ho4 := Only.alloc (fun _ => False) W3 (.cells #[.int .u8 x] 5)
          have hr4 := RowAt.only ho4 hr3 (fun _ _ => id)
          have hq4 := hq3.only ho4 (fun _ _ => id)
          have hnew : (W3.alloc (.cells #[.int .u8 x] 5)).cell? ⟨W3.heap.size, 0, none⟩ = some (.int .u8 x) := by
            rw [cell_of_blk _ _ _ _ _ (heap_alloc_new W3 _)]; rfl
          have hB3 : B ≤ W3.heap.size := Nat.le_trans hBw ho3.size
          obtain ⟨v', W5, hrun, hr5, ho5, hfr⟩ := RowAt.append (P := Try.prog) 55 55 5 i _ 1 Try.underlying55 hi hz0 hz1 hz2 rfl hr4 ⟨W3.heap.size, 0, none⟩ (.int .u8 x) hnew rfl (by have := ho4.size; omega) (by simp [maxLen]; omega) (by simp; omega)
          have hI6 : QInv w W5 B p (fun k => F k ∨ (W2.heap.size ≤ k ∧ k < W3.heap.size)) v' (l ++ [x]) := by
            refine ⟨hq4.only ho5 (fun k hk h => hap k h hk), by simpa using hr5, fun g hg h => ?_, (hb3.alloc hB3 _).trans (ho5.below (by have := ho4.size; omega) (fun k hk h => by have := (hr4.lt h).2; omega))⟩
            rcases hfr with hfr | ⟨g2, hg2, hle⟩
            · exact hap g (by rw [← hfr]; exact hg) h
            · rw [hg] at hg2
              cases hg2
              have := (hq3.foot g h).2
              have := ho4.size
              simp at hle
              omega
          have HI6 := Lib.hid hI6
          have HLEN := Lib.hid (len hI6.queue)
          have HRUN := Lib.hid hrun
          obtain ⟨A', c', rfl⟩ := hI6.row.slice
          simp only [List.length_map, List.length_append, List.length_cons, List.length_nil, Nat.zero_add] at HI6 HRUN HLEN
          clear hI6 hrun hr5 ho5 hfr hq4 hr4 ho4 hr3 hq3 ho3 hb3 hap hnew hI2 hi hz0 hz1 hz2
          go_wp2_with (first | (at_builtin; refine Lib.wpList_append_run _ rfl _ _ _ _ rfl _ _ rfl rfl _ _ HRUN.out ?_) | fail)
          refine HLEN.out.mono ?_
          rintro e w' ⟨rfl, rfl⟩
          clear HLEN HRUN
          go_wp2
          go_roundw
          case rel => exact ⟨k + 1, _, l ++ [x], by omega, by go_num, by simp; omega, HI6⟩
          case measure => simp [intOf]; omega
    · obtain rfl : k = n := by omega
      go_wp2
      exact bodyPost_ret (by simp [results, Try.results6, go_sem]) rfl ⟨rfl, by have := hI.out.below; have h2 := HB.out; subst h2; exact this⟩
theorem queues_far (A : Option Addr) (n c : Nat) (w : World) (hn : (decide ((100 : Int) < (n : Int))) = true) :
    Calls Try.prog 6 #[.slice A n c] w fun e w' => e = .returned (.bool true) ∧ Below w.heap.size w w' := by
  go_enter Try.func6, Try.ntmps6
  go_wp2_with fail
  refine (awake _).mono ?_
  rintro e w1 ⟨rfl, hb1⟩
  have HB1 := Lib.hid hb1; clear hb1
  go_wp2
  all_goals go_ret
  all_goals exact ⟨rfl, HB1.out⟩
theorem queues_all (A : Option Addr) (n c : Nat) (w : World)
    (hA : ∀ k, k < n → ∃ g o a b d, A = some ⟨g, o, none⟩ ∧ g < w.heap.size ∧ w.cell? ⟨g, o + k * 3, none⟩ = some (.int .u8 a) ∧ w.cell? ⟨g, o + k * 3 + 1, none⟩ = some (.int .u8 b) ∧ w.cell? ⟨g, o + k * 3 + 2, none⟩ = some (.int .u8 d) ∧ (0 ≤ a ∧ a ≤ 255) ∧ (0 ≤ b ∧ b ≤ 255) ∧ 0 ≤ d ∧ d ≤ 255) :
    Calls Try.prog 6 #[.slice A n c] w fun e w' => e = .returned (.bool true) ∧ Below w.heap.size w w' := by
  by_cases hn : n ≤ 100
  · exact queues_walk A n c w (by simp; omega) hn hA
  · exact queues_far A n c w (by simp; omega)
end Go.Proofs.Yteojcdpmlhlfaaa
