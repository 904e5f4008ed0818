/- What slices.Delete[[]uint8] does to a row of the call's own, one item struck: in place. After the shelf's walk at []int. Conditions: the row is the call's own; the item's place lies in it. -/
import Derived.Test.YteojcdpmlhlfaaaInsB
import Derived.Lib.SlicesDelete
import Derived.Deep.LoopGhost
import Derived.Sort.WalkB12
namespace Go.Proofs.Yteojcdpmlhlfaaa
open Go.RowKit Go.Lib

set_option maxHeartbeats 4000000 in
set_option maxRecDepth 1000000 in
theorem deleteB_raw (g n cap i j : Nat) (xs : List Value) (w : World) (hx : ∀ u ∈ xs, u.oneCell' = true) (hl : xs.length = n) (hnc : n ≤ cap) (_hm : cap ≤ 9223372036854775807) (hij : i < j) (hj : j ≤ n)
    (hcx : ∀ t u, xs[t]? = some u → w.cell? ⟨g, t, none⟩ = some u) (hfr : ∀ t, w.frozen? ⟨g, t, none⟩ = false) :
    Calls Try.prog 73 #[.slice (some ⟨g, 0, none⟩) n cap, .int .i64 i, .int .i64 j] w fun e w' =>
      e = .returned (.slice (some ⟨g, 0, none⟩) (i + (n - j)) cap) ∧ w' = (w.drew.setCells g i (xs.drop j)).setCells g (i + (n - j)) (List.replicate (n - (i + (n - j))) (.int .u8 0)) := by
  obtain ⟨i0, hi0, hz0, hz1, hz2⟩ := info_parts infoB
  obtain ⟨news, hnews⟩ : ∃ news, news = xs.drop j := ⟨_, rfl⟩
  have hlen : news.length = n - j := by rw [hnews, List.length_drop, hl]
  obtain ⟨A, hA, hsrc⟩ : ∃ A : Addr, (if cap = j then some (⟨g, 0, none⟩ : Addr) else some ⟨g, j, none⟩) = some A ∧ Hid (∀ t u, news[t]? = some u → w.drew.cell? (A.add t) = some u) := by
    by_cases h : cap = j
    · refine ⟨⟨g, 0, none⟩, by simp [h], fun t u hu => ?_⟩
      have h0 : news.length = 0 := by rw [hlen]; omega
      rw [List.length_eq_zero_iff.1 h0] at hu
      simp at hu
    · refine ⟨⟨g, j, none⟩, by simp [h], fun t u hu => ?_⟩
      rw [hnews, List.getElem?_drop] at hu
      rw [Addr.add_lit]
      exact hcx _ u hu
  have s1 : Hid (news.length = (n - j) * 1) := by rw [Nat.mul_one]; exact hlen
  have s2 : Hid (∀ u ∈ news, u.oneCell' = true) := by
    intro u hu
    rw [hnews] at hu
    exact hx u (List.mem_of_mem_drop hu)
  have hsome : ∀ t, t < n → (w.cell? ⟨g, t, none⟩).isSome = true := fun t ht => by
    rw [hcx t _ (List.getElem?_eq_getElem (by omega))]; rfl
  have s3 : Hid (∀ t, t < news.length → (w.drew.cell? ⟨g, 0 + i * 1 + t, none⟩).isSome = true ∧ w.drew.frozen? ⟨g, 0 + i * 1 + t, none⟩ = false) := by
    intro t ht
    rw [hlen] at ht
    rw [Nat.mul_one, Nat.zero_add]
    exact ⟨hsome _ (by omega), hfr _⟩
  obtain ⟨W1, hW1⟩ : ∃ W1, W1 = w.drew.setCells g (0 + i * 1) news := ⟨_, rfl⟩
  have hW1' : W1 = w.drew.setCells g i (xs.drop j) := by rw [hW1, hnews, Nat.mul_one, Nat.zero_add]
  have hsome1 : ∀ t, t < n → (W1.cell? ⟨g, t, none⟩).isSome = true := fun t ht => by
    rw [hW1']
    exact isSome_setCellsB g (xs.drop j) i w.drew (fun t' ht' => hsome _ (by rw [List.length_drop] at ht'; omega)) t (hsome t ht)
  have hcl : ∀ ty, (Builtin.clear_ #[55] ty #[.slice (some ⟨g, i + (n - j), none⟩) (n - (i + (n - j))) (cap - (i + (n - j)))]).run Try.prog W1 = .ok (.tuple #[]) (W1.setCells g (i + (n - j)) (List.replicate (n - (i + (n - j))) (.int .u8 0))) :=
    fun ty => Lib.run_clear_slice W1 _ _ ty _ Try.underlying55 (fun _ => by kernel_rfl) rfl rfl g (i + (n - j)) _ _ (by omega) (fun t ht => hsome1 _ (by omega)) (fun t ht => by rw [hW1', World.frozen?_setCells]; exact hfr _)
  have X : Aside (W1 = w.drew.setCells g i (xs.drop j)) := hW1'
  have hW : Hid (W1 = w.drew.setCells g (0 + i * 1) news) := hW1
  have hic : i ≤ cap := by omega
  have hjc : j ≤ cap := by omega
  have HCX := Lib.hid hcx; have HFR := Lib.hid hfr; have HL := Lib.hid hl
  clear hW1 hW1' hsome hsome1 hnews hlen hcx hfr hl hx
  go_enter Try.func73, Try.ntmps73
  go_wp2_with fail
  go_region_law (refine step_append_room rfl (.tmp 22) (.tmp 25) 55 rfl 5 i0 1 Try.underlying55 hi0 hz1 g 0 i cap (by simp [Act.eval, Act.put]) A (n - j) (cap - j) news (by simp [Act.eval, Act.put]) s1.out hsrc.out s2.out (by omega) s3.out ?_; rw [← hW.out])
  go_wp2
  go_ret
  exact ⟨rfl, by rw [← X.out]⟩
theorem deleteB (base : Nat) (v : Value) (n i : Nat) (xs : List Value) (w : World) (hxs : ∀ u ∈ xs, u.oneCell' = true) (hi : i < n) (hown : w.ownsRow base 5 1 v n xs) :
    Calls Try.prog 73 #[v, .int .i64 i, .int .i64 ((i + 1 : Nat) : Int)] w fun e w' =>
      ∃ v', e = .returned v' ∧ w'.ownsRow base 5 1 v' (n - 1) (xs.take i ++ xs.drop (i + 1)) ∧ Only (fun k => v.ownBlock = some k) w w' ∧ v'.ownBlock = v.ownBlock ∧ (∃ g cap, v' = .slice (some ⟨g, 0, none⟩) (n - 1) cap) := by
  have hl : xs.length = n := by have := hown.1; omega
  rcases own_forms hown with ⟨_, h0, _⟩ | ⟨g, cap, cur, rfl, hg, hh, hnc, hcm, hcs, _⟩
  · omega
  · have hcx := fun j u hj => own_cell hown j u hj
    have hfr : ∀ j, w.frozen? ⟨g, j, none⟩ = false := fun j => by simp [World.frozen?, hh]
    refine (deleteB_raw g n cap i (i + 1) xs w hxs hl hnc (by unfold maxLen at hcm; omega) (by omega) (by omega) hcx hfr).mono ?_
    rintro e w' ⟨rfl, rfl⟩
    have e1 : i + (n - (i + 1)) = n - 1 := by omega
    rw [e1]
    refine ⟨_, rfl, ?_, ?_, rfl, g, cap, rfl⟩
    · obtain ⟨c1, hh1, hs1⟩ := setCells_block g (xs.drop (i + 1)) i w.drew cur _ _ hh
      obtain ⟨c2, hh2, hs2⟩ := setCells_block g (List.replicate (n - (n - 1)) (Value.int .u8 0)) (n - 1) (w.drew.setCells g i (xs.drop (i + 1))) c1 _ _ hh1
      refine ownsRow_of_cells hg hh2 (by omega) (by omega) hcm (by simp; omega) ?_
      intro j u hj
      have hjl := (List.getElem?_eq_some_iff.1 hj).1
      simp at hjl
      rw [World.cell?_setCells_out g _ _ _ _ (fun _ _ => .inl (by show j < n - 1; omega))]
      by_cases h2 : j < i
      · rw [World.cell?_setCells_out _ _ _ _ _ (fun _ _ => .inl h2)]
        rw [List.getElem?_append_left (by rw [List.length_take]; omega), List.getElem?_take_of_lt h2] at hj
        exact hcx j u hj
      · rw [List.getElem?_append_right (by rw [List.length_take]; omega), List.length_take] at hj
        obtain ⟨t, rfl⟩ : ∃ t, j = i + t := ⟨j - i, by omega⟩
        rw [show i + t - min i xs.length = t by omega] at hj
        have ht := (List.getElem?_eq_some_iff.1 hj).1
        rw [World.cell?_setCells_in g (xs.drop (i + 1)) i _ (fun s hs => by
          show (w.cell? ⟨g, i + s, none⟩).isSome = true
          simp at hs
          rw [hcx (i + s) _ (List.getElem?_eq_getElem (by omega))]; rfl) t ht]
        rw [List.getElem?_eq_getElem ht] at hj; exact hj
    · exact (((Only.drew (fun k => some g = some k) w).trans (Only.grown (setCells_grown g _ i w.drew)) (fun _ _ h => h)).trans (Only.grown (setCells_grown g _ (n - 1) _)) (fun _ _ h => h))
end Go.Proofs.Yteojcdpmlhlfaaa
