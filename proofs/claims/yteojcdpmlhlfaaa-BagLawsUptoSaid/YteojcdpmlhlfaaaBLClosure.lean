/- What the function that refinerylaw02.BagLaws joins by answers: both sets together, in memory of its own. Conditions: both sets' rows rise. -/
import Derived.Test.YteojcdpmlhlfaaaJoinB
namespace Go.Proofs.Yteojcdpmlhlfaaa
open Go.RowKit Go.Shelf SB
set_option maxRecDepth 100000 in
set_option maxHeartbeats 2000000 in
theorem joined (b1 b2 : Nat) (v v2 : Value) (xs ys : List Int) (w : World) (h : IsSetB w b1 v xs) (h2 : IsSetB w b2 v2 ys) (hn : xs.length + ys.length ≤ 1048576) :
    Calls Try.prog 42 #[.agg #[v], .agg #[v2]] w fun e w' => ∃ v', e = .returned (.agg #[v']) ∧ IsSetB w' w.heap.size v' (joinL xs ys) ∧ Below w.heap.size w w' := by
  obtain ⟨A1, c1, rfl, _, _, _⟩ := isset_cells h
  obtain ⟨A2, c2, rfl, _, _, _⟩ := isset_cells h2
  obtain ⟨W3, hW3⟩ : ∃ W3, W3 = ((w.alloc (.cells #[.slice A1 xs.length c1] 79)).alloc (.cells #[.slice A2 ys.length c2] 79)).alloc (.cells #[.slice none 0 0] 79) := ⟨_, rfl⟩
  have ho3 : Only (fun _ => False) w W3 := by
    rw [hW3]
    exact ((Only.alloc _ w _).trans (Only.alloc (fun _ => False) _ _) (fun _ _ => id)).trans (Only.alloc (fun _ => False) _ _) (fun _ _ => id)
  have hsz3 : W3.heap.size = w.heap.size + 3 := by rw [hW3]; simp
  have hz0 : W3.heap[w.heap.size]? = some (.cells #[.slice A1 xs.length c1] 79 (0, 0)) := by
    rw [hW3]
    exact (Below.heap_alloc _ _ _ (by simp; omega)).trans ((Below.heap_alloc _ _ _ (by simp)).trans (heap_alloc_new w _))
  have hz1 : W3.heap[w.heap.size + 1]? = some (.cells #[.slice A2 ys.length c2] 79 (0, 0)) := by
    rw [hW3]
    refine (Below.heap_alloc _ _ _ (by simp)).trans ?_
    have := heap_alloc_new (w.alloc (.cells #[.slice A1 xs.length c1] 79)) (.cells #[.slice A2 ys.length c2] 79)
    rwa [World.size_alloc] at this
  have hz2 : W3.heap[w.heap.size + 2]? = some (.cells #[.slice none 0 0] 79 (0, 0)) := by
    rw [hW3]
    have := heap_alloc_new ((w.alloc (.cells #[.slice A1 xs.length c1] 79)).alloc (.cells #[.slice A2 ys.length c2] 79)) (.cells #[.slice none 0 0] 79)
    rwa [World.size_alloc, World.size_alloc] at this
  have h13 : IsSetB W3 b1 _ xs := h.only ho3 (fun _ _ => id)
  have h23 : IsSetB W3 b2 _ ys := h2.only ho3 (fun _ _ => id)
  have hvlt := fun g hg => (own_lt h2.own (g := g) hg).1
  have HC := Lib.hid (clone b1 _ xs W3 h13 (by omega))
  rw [hW3] at HC
  have HW := Lib.hid hW3
  have HS := Lib.hid (And.intro ho3 (And.intro hz0 (And.intro hz1 (And.intro hz2 h23))))
  clear hW3 ho3 hz0 hz1 hz2 h13 h23 h h2
  obtain ⟨z, hz⟩ : ∃ z, w.heap.size = z := ⟨_, rfl⟩
  rw [hz] at hsz3 hvlt HS
  go_enter Try.func42, Try.ntmps42
  go_wp2_with fail
  refine HC.out.mono ?_
  rintro e w4 ⟨v1, rfl, hs4, hb4⟩
  rw [← HW.out] at hs4 hb4
  obtain ⟨A3, c3, rfl, _, _, _⟩ := isset_cells hs4
  have hz04 := (hb4.block z (by omega)).trans HS.out.2.1
  have hz14 := (hb4.block (z + 1) (by omega)).trans HS.out.2.2.1
  have hz24 := (hb4.block (z + 2) (by omega)).trans HS.out.2.2.2.1
  have hc04 : w4.cell? ⟨z, 0, none⟩ = some (.slice A1 xs.length c1) := by rw [cell_of_blk _ _ _ _ _ hz04]; rfl
  have hf04 : w4.frozen? ⟨z, 0, none⟩ = false := by simp [World.frozen?, hz04]
  have ho5 := Only.setCell w4 ⟨z, 0, none⟩ (.slice A3 xs.length c3)
  have hown3 : ∀ g, (Value.slice A3 xs.length c3).ownBlock = some g → z + 3 ≤ g := fun g hg => by have := (own_lt hs4.own hg).2; omega
  have h24 : IsSetB w4 b2 (.slice A2 ys.length c2) ys := HS.out.2.2.2.2.only (Only.of_below hb4) (fun g hg e => by have := hvlt g hg; omega)
  obtain ⟨W5, hW5⟩ : ∃ W5, W5 = w4.setCell ⟨z, 0, none⟩ (.slice A3 xs.length c3) := ⟨_, rfl⟩
  rw [← hW5] at ho5
  have hs5 : IsSetB W5 (z + 3) (.slice A3 xs.length c3) xs := ⟨own_base (hs4.only ho5 (fun g hg e => by have := hown3 g hg; have e' : g = z := e; omega)).own (by omega), hs4.srt⟩
  have h25 := h24.only ho5 (fun g hg e => by have := hvlt g hg; have e' : g = z := e; omega)
  have hz05 : W5.heap[z]? = some (.cells #[.slice A3 xs.length c3] 79 (0, 0)) := by
    rw [hW5]; simp [World.setCell, Array.getElem?_modify, hz04]
  have hz15 := (ho5.block (z + 1) (by have := hb4.size; omega) (by show ¬ (z + 1 = z); omega)).trans hz14
  have hz25 := (ho5.block (z + 2) (by have := hb4.size; omega) (by show ¬ (z + 2 = z); omega)).trans hz24
  have hsz5 : z + 3 ≤ W5.heap.size := by have := hb4.size; have := ho5.size; omega
  have hb5 : Below z w W5 := (HS.out.1.below (by omega) (fun _ _ => id)).trans ((hb4.mono (by omega)).trans (ho5.below (by have := hb4.size; omega) (fun k hk e => by have e' : k = z := e; omega)))
  have hc15 : W5.cell? ⟨z + 1, 0, none⟩ = some (.slice A2 ys.length c2) := by rw [cell_of_blk _ _ _ _ _ hz15]; rfl
  have hsep : ∀ g, (Value.slice A3 xs.length c3).ownBlock = some g → (Value.slice A2 ys.length c2).ownBlock ≠ some g := fun g hg e => by have := hown3 g hg; have := hvlt g e; omega
  have HJ := Lib.hid (join (z + 3) z 0 b2 _ _ xs ys W5 hs5 h25 hn _ _ hz05 rfl (fun e => by have := hown3 z e; omega) (by omega) (fun e => by have := hvlt z e; omega) hsep)
  have HB5 := Lib.hid (And.intro hb5 hz25)
  have HZ4 := Lib.hid hz04
  rw [hW5] at HJ hc15
  have HW5 := Lib.hid hW5
  clear hW5 hs4 hb4 hz04 hz14 hz24 h24 hs5 h25 hz05 hz15 hz25 hb5 ho5
  go_wp2_with fail
  refine HJ.out.mono ?_
  rintro e w6 ⟨v', rfl, hs6, hput, hnew⟩
  rw [← HW5.out] at hput hnew
  obtain ⟨A6, c6, rfl, _, _, _⟩ := isset_cells hs6
  have hz06 := hput.blk _ _ _ (show W5.heap[z]? = some (.cells #[.slice A3 xs.length c3] 79 (0, 0)) by
    have h4 := HZ4.out
    rw [HW5.out]; simp [World.setCell, Array.getElem?_modify, h4])
  have hc06 : w6.cell? ⟨z, 0, none⟩ = some (.slice A6 (joinL xs ys).length c6) := by rw [cell_of_blk _ _ _ _ _ hz06]; rfl
  have hz26 := (hput.only.block (z + 2) (by omega) (by
    rintro (e | e)
    · omega
    · have := hown3 _ e; omega)).trans HB5.out.2
  have hc26 : w6.cell? ⟨z + 2, 0, none⟩ = some (.slice none 0 0) := by rw [cell_of_blk _ _ _ _ _ hz26]; rfl
  have hf26 : w6.frozen? ⟨z + 2, 0, none⟩ = false := by simp [World.frozen?, hz26]
  have hown6 : ∀ g, (Value.slice A6 (joinL xs ys).length c6).ownBlock = some g → z + 3 ≤ g := fun g hg => (own_lt hs6.own hg).2
  have hfin : IsSetB (w6.setCell ⟨z + 2, 0, none⟩ (.slice A6 (joinL xs ys).length c6)) w.heap.size (.slice A6 (joinL xs ys).length c6) (joinL xs ys) ∧ Below w.heap.size w (w6.setCell ⟨z + 2, 0, none⟩ (.slice A6 (joinL xs ys).length c6)) ∧
      (w6.setCell ⟨z + 2, 0, none⟩ (.slice A6 (joinL xs ys).length c6)).cell? ⟨z + 2, 0, none⟩ = some (.slice A6 (joinL xs ys).length c6) := by
    rw [hz]
    refine ⟨⟨own_base (hs6.only (Only.setCell w6 _ _) (fun g hg e => by have := hown6 g hg; have e' : g = z + 2 := e; omega)).own (by omega), hs6.srt⟩, ?_, World.cell?_setCell_same' _ _ _ (by rw [hc26]; rfl)⟩
    refine (HB5.out.1.trans (hput.only.below (by omega) ?_)).setCell (by show z ≤ z + 2; omega) _
    rintro k hk (e | e)
    · omega
    · have := hown3 _ e; omega
  have HF := Lib.hid hfin
  clear hfin hput hnew hs6 hz06 hz26 HJ HC HW HS
  go_wp2
  have hq := HF.out.2.2
  refine bodyPost_ret (by simp [results, Try.results42, go_sem, hq]) rfl ⟨_, rfl, HF.out.1, HF.out.2.1⟩
end Go.Proofs.Yteojcdpmlhlfaaa
