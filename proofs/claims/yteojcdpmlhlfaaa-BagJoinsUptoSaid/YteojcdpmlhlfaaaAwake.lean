/- refinerylaw02.Awake answers true: the chapter's example. Condition: none. -/
import Derived.Test.YteojcdpmlhlfaaaSetI
namespace Go.Proofs.Yteojcdpmlhlfaaa
open Go.RowKit
theorem form_some {w : World} {base : Nat} {e : TypeId} {n : Nat} {v : Value} {xs : List Value} (h : w.ownsRow base e 1 v n xs) (hn : 0 < n) : ∃ g cap, v = .slice (some ⟨g, 0, none⟩) n cap := by
  rcases own_forms h with ⟨_, h0, _⟩ | ⟨g, cap, _, e, _⟩
  · omega
  · exact ⟨g, cap, e⟩
set_option maxHeartbeats 1000000 in
theorem awake (w : World) : Calls Try.prog 10 #[] w fun e w' => e = .returned (.bool true) ∧ Below w.heap.size w w' := by
  obtain ⟨W0, hW0⟩ : ∃ W0, W0 = w.alloc (.cells #[.int .i64 3, .int .i64 1, .int .i64 3] 3) := ⟨_, rfl⟩
  have hb0 : Below w.heap.size w W0 := by rw [hW0]; exact (Below.refl _ _).alloc (Nat.le_refl _) _
  have hh0 : W0.heap[w.heap.size]? = some (.cells #[.int .i64 3, .int .i64 1, .int .i64 3] 3 (0, 0)) := by rw [hW0]; exact heap_alloc_new w _
  have hof := ofI_some w.heap.size 0 3 3 [3, 1, 3] W0 rfl (by omega) (fun k y hk => by
    rw [cell_of_blk _ _ _ _ _ hh0]
    match k, hk with
    | 0, hk => simpa using hk
    | 1, hk => simpa using hk
    | 2, hk => simpa using hk) (by omega)
  have HOF := Lib.hid hof; clear hof
  go_enter Try.func10, Try.ntmps10
  go_wp2_with fail
  rw [← hW0]
  refine HOF.out.mono ?_
  rintro e w1 ⟨v1, rfl, hs1, hb1⟩
  have hs1' : IsSetI w1 W0.heap.size v1 [1, 3] := hs1
  clear hW0 hs1
  obtain ⟨g, cap, rfl⟩ := form_some hs1'.own (by decide)
  have hlt1 : W0.heap.size ≤ w1.heap.size := hb1.size
  have hb2 : Below w.heap.size w w1 := hb0.trans (hb1.mono hb0.size)
  have hsz0 : w.heap.size ≤ W0.heap.size := hb0.size
  obtain ⟨W2, hW2⟩ : ∃ W2, W2 = w1.alloc (.cells #[.slice (some ⟨g, 0, none⟩) 2 cap] 75) := ⟨_, rfl⟩
  have hh2 : W2.heap[w1.heap.size]? = some (.cells #[.slice (some ⟨g, 0, none⟩) 2 cap] 75 (0, 0)) := by rw [hW2]; exact heap_alloc_new w1 _
  have hs2 : IsSetI W2 W0.heap.size (.slice (some ⟨g, 0, none⟩) 2 cap) [1, 3] := by rw [hW2]; exact hs1'.only (Only.alloc (fun _ => False) _ _) (fun _ _ => id)
  have hb3 : Below w.heap.size w W2 := by rw [hW2]; exact hb2.alloc hb2.size _
  have hlt2 : w1.heap.size < W2.heap.size := (Array.getElem?_eq_some_iff.1 hh2).1
  have HL := Lib.hid (lenI W0.heap.size _ [1, 3] W2 hs2)
  clear HOF hs1' hb1 hb2 hh0 hb0
  have HW := Lib.hid hW2
  have HB3 := Lib.hid hb3; clear hb3
  have HH2 := Lib.hid hh2; have HS2 := Lib.hid hs2
  clear hW2 hh2 hs2
  go_wp2_with fail
  rw [← HW.out]
  refine HL.out.mono ?_
  rintro e w3 ⟨rfl, hb⟩
  have hh3 : w3.heap[w1.heap.size]? = some (.cells #[.slice (some ⟨g, 0, none⟩) 2 cap] 75 (0, 0)) := (hb.block _ hlt2).trans HH2.out
  have hs3 : IsSetI w3 W0.heap.size (.slice (some ⟨g, 0, none⟩) 2 cap) [1, 3] := HS2.out.only (Only.of_below hb) (fun k hk h => by have := (own_lt HS2.out.own hk).1; omega)
  have hc3 : w3.cell? ⟨w1.heap.size, 0, none⟩ = some (.slice (some ⟨g, 0, none⟩) 2 cap) := by rw [cell_of_blk _ _ _ _ _ hh3]; rfl
  have hb4 := HB3.out.trans (hb.mono HB3.out.size)
  have hlt3 : w1.heap.size < w3.heap.size := (Array.getElem?_eq_some_iff.1 hh3).1
  clear HH2 HS2 HB3 HL hb
  have HH3 := Lib.hid hh3; have HS3 := Lib.hid hs3; have HB4 := Lib.hid hb4
  clear hh3 hs3 hb4
  go_wp2_with fail
  refine (hasI W0.heap.size _ [1, 3] 1 w3 HS3.out (by decide)).mono ?_
  rintro e w4 ⟨rfl, hb⟩
  have hh4 : w4.heap[w1.heap.size]? = some (.cells #[.slice (some ⟨g, 0, none⟩) 2 cap] 75 (0, 0)) := (hb.block _ hlt3).trans HH3.out
  have hs4 : IsSetI w4 W0.heap.size (.slice (some ⟨g, 0, none⟩) 2 cap) [1, 3] := HS3.out.only (Only.of_below hb) (fun k hk h => by have := (own_lt HS3.out.own hk).1; omega)
  have hb5 := HB4.out.trans (hb.mono HB4.out.size)
  have hlt4 : w1.heap.size < w4.heap.size := (Array.getElem?_eq_some_iff.1 hh4).1
  clear HH3 HS3 HB4 hb hc3
  have HH4 := Lib.hid hh4; have HS4 := Lib.hid hs4; have HB5 := Lib.hid hb5
  clear hh4 hs4 hb5
  go_wp2_with fail
  refine (addI W0.heap.size w1.heap.size 0 _ [1, 3] 2 w4 HS4.out (by decide) _ _ HH4.out rfl (own_ne_blk HS4.out.own HH4.out (by decide)) (by omega)).mono ?_
  rintro e w5 ⟨v', rfl, hs5, hput, hnew⟩
  have hs5' : IsSetI w5 W0.heap.size v' [1, 2, 3] := hs5
  obtain ⟨g', cap', rfl⟩ := form_some hs5'.own (by decide)
  have hh5 := hput.blk _ _ _ HH4.out
  have hh5' : w5.heap[w1.heap.size]? = some (.cells #[.slice (some ⟨g', 0, none⟩) 3 cap'] 75 (0, 0)) := hh5
  have hc5 : w5.cell? ⟨w1.heap.size, 0, none⟩ = some (.slice (some ⟨g', 0, none⟩) 3 cap') := by rw [cell_of_blk _ _ _ _ _ hh5']; rfl
  have hb6 := HB5.out.trans (hput.only.below HB5.out.size (by
    rintro k hk (h | h)
    · omega
    · have := (own_lt HS4.out.own h).2; omega))
  clear HH4 HS4 HB5 hput hnew hh5 hs5 hh5'
  have HS5 := Lib.hid hs5'; have HB6 := Lib.hid hb6
  clear hs5' hb6
  go_wp2_with fail
  refine (hasI W0.heap.size _ [1, 2, 3] 2 w5 HS5.out (by decide)).mono ?_
  rintro e w6 ⟨rfl, hb⟩
  have hb7 := HB6.out.trans (hb.mono HB6.out.size)
  go_wp2
  go_ret
  exact ⟨rfl, hb7⟩
end Go.Proofs.Yteojcdpmlhlfaaa
