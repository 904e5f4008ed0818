/- What refinerylaw02.BagStops' walk comes to. Conditions: the row's cells hold numbers. -/
import Derived.Test.YteojcdpmlhlfaaaSetMoreH
import Derived.Test.YteojcdpmlhlfaaaEqH
import Derived.Test.YteojcdpmlhlfaaaSorted
import Derived.Test.YteojcdpmlhlfaaaAwake
import Derived.Test.YteojcdpmlhlfaaaOpen
import Derived.Test.YteojcdpmlhlfaaaRow
import Derived.Lib.AppendZeros
namespace Go.Proofs.Yteojcdpmlhlfaaa
open Go.RowKit Go.Shelf SH
attribute [local go_sem] Oper.semAt_some

theorem tail_facts {W : World} {b1 b2 M c4 c6 : Nat} {A4 A6 : Option Addr} {xs : List Int} (hrow : RowAt W b1 37 (.slice A6 ((xs.take M).map (Value.int .u16)).length c6) ((xs.take M).map (Value.int .u16))) (h4 : IsSetH W b2 (.slice A4 xs.length c4) xs) :
    (∃ N : Nat, min (xs.length : Int) (M : Int) = (N : Int) ∧ N ≤ xs.length ∧ ((xs.take M).map (Value.int .u16)).length = N ∧
      ∀ m c', Calls Try.prog 16 #[.slice A6 N c6, .slice A4 N c'] (W.drewN m) fun e w' => e = .returned (.bool true) ∧ ∃ k, w' = W.drewN k) ∧
    ∀ m, xs.length ≤ 1048576 → Calls Try.prog 17 #[.slice A4 xs.length c4] (W.drewN m) fun e w' => e = .returned (.bool true) ∧ ∃ k, w' = W.drewN k := by
  obtain ⟨A, c, e, hc, hm, hmc⟩ := isset_cells h4
  cases e
  have hlen : ((xs.take M).map (Value.int .u16)).length = min M xs.length := by simp
  refine ⟨⟨min M xs.length, by omega, by omega, hlen, fun m c' => ?_⟩, fun m hx => ?_⟩
  · have hc6 : CellsAt A6 (xs.take M) (W.drewN m) := fun i hi => by
      rcases hrow.form with ⟨_, h⟩ | ⟨g, o, c2, hv, _⟩
      · have h0 : (xs.take M).length = 0 := by rw [← List.length_map (f := Value.int .u16), h]; rfl
        omega
      · cases hv
        exact ⟨g, o, rfl, hrow.cell i _ (by rw [List.getElem?_map, List.getElem?_eq_getElem hi]; rfl)⟩
    have hc4 : CellsAt A4 (xs.take M) (W.drewN m) := fun i hi => by
      obtain ⟨g, o, e, h⟩ := hc i (by simp at hi; omega)
      exact ⟨g, o, e, by rw [List.getElem_take]; exact h⟩
    have hl2 : (xs.take M).length = min M xs.length := by simp
    have := equal A6 A4 c6 c' (xs.take M) (xs.take M) (W.drewN m) hc6 hc4 (by omega) (by omega)
    rw [hl2] at this
    refine this.mono ?_
    rintro e w' ⟨rfl, k, rfl⟩
    exact ⟨by simp, m + k, World.drewN_drewN _ _ _⟩
  · refine (sorted A4 c4 xs (W.drewN m) (fun i hi => ?_) hx (srt_lt h4.srt)).mono ?_
    · obtain ⟨g, o, e, h⟩ := hc i hi
      exact ⟨g, o, e, h⟩
    · rintro e w' ⟨rfl, k, rfl⟩
      exact ⟨rfl, m + k, World.drewN_drewN _ _ _⟩
set_option maxRecDepth 100000 in
set_option maxHeartbeats 4000000 in
theorem stops_walk (A : Option Addr) (n c : Nat) (zs : List Int) (kb : Int) (w : World) (hn : (decide ((60 : Int) < (n : Int))) = false) (hn' : n ≤ 60) (hz : zs.length = n) (hkb : 0 ≤ kb ∧ kb ≤ 255)
    (hA : ∀ (i : Nat) (hi : i < zs.length), ∃ g o, A = some ⟨g, o, none⟩ ∧ g < w.heap.size ∧ w.cell? ⟨g, o + i, none⟩ = some (.int .u16 zs[i])) :
    Calls Try.prog 4 #[.slice A n c, .int .u8 kb] w fun e w' => e = .returned (.bool true) ∧ Below w.heap.size w w' := by
  refine (callsIn_wide (n := 3)).1 ?_
  refine callsIn_of_wp_marks Try.func4 rfl trivial ?_ rfl
  simp only [Try.ntmps4, List.size_toArray, List.length_cons, List.length_nil, Nat.reduceAdd, Nat.reduceSub, Array.replicate_succ, Array.replicate_zero, List.push_toArray, List.append_toArray, List.nil_append, List.cons_append]
  gi_wp2_with fail
  refine ⟨trivial, (callsIn_wide.2 (awake _)).mono ?_⟩
  rintro e w1 ⟨rfl, hb1⟩
  obtain ⟨B, HB⟩ : ∃ B, Hid (w.heap.size = B) := ⟨_, rfl⟩
  have hk0 : (w.alloc (.cells #[.int .u8 kb] 5)).heap[w.heap.size]? = some (.cells #[.int .u8 kb] 5 (0, 0)) := heap_alloc_new w _
  have hk1 := (hb1.block w.heap.size (by simp)).trans hk0
  have hB1 : Below B w w1 := by rw [← HB.out]; exact ((Below.refl w.heap.size w).alloc (Nat.le_refl _) _).trans (hb1.mono (by simp))
  rw [HB.out] at hk1 ⊢
  clear hb1 hk0
  have hA1 : CellsAt A zs w1 := fun i hi => by
    obtain ⟨g, o, e, hg, hc⟩ := hA i hi
    exact ⟨g, o, e, (hB1.cell (p := ⟨g, o + i, none⟩) (by rw [← HB.out]; exact hg)).trans hc⟩
  gi_wp2_with fail
  subst hz
  refine ⟨trivial, (callsIn_wide.2 (of A c zs w1 (by omega) hA1)).mono ?_⟩
  rintro e w2 ⟨v, rfl, hs2, hb2⟩
  obtain ⟨A2, c2, rfl, _, _, _⟩ := isset_cells hs2
  have HS2 := Lib.hid hs2
  have HB2 := Lib.hid hb2
  clear hs2 hb2
  gi_wp2_with fail
  obtain ⟨W3, hW3⟩ : ∃ W3, W3 = w2.alloc (.cells #[.slice A2 (ofLH zs).length c2] 35) := ⟨_, rfl⟩
  have ho3 : Only (fun _ => False) w2 W3 := by rw [hW3]; exact Only.alloc _ _ _
  have hp3 : W3.heap[w2.heap.size]? = some (.cells #[.slice A2 (ofLH zs).length c2] 35 (0, 0)) := by rw [hW3]; exact heap_alloc_new w2 _
  have hB2 : B ≤ w1.heap.size := by have := hB1.size; have := HB.out; omega
  have hs3 : IsSetH W3 B (.slice A2 (ofLH zs).length c2) (ofLH zs) := ⟨own_base (HS2.out.only ho3 (fun _ _ => id)).own hB2, HS2.out.srt⟩
  have hk3 : W3.heap[B]? = some (.cells #[.int .u8 kb] 5 (0, 0)) := (ho3.block B (by have := HB2.out.size; have := (Array.getElem?_eq_some_iff.1 hk1).1; omega) id).trans ((HB2.out.block B (Array.getElem?_eq_some_iff.1 hk1).1).trans hk1)
  have hB3 : Below B w W3 := (hB1.trans (HB2.out.mono hB2)).trans (ho3.below (Nat.le_trans hB2 HB2.out.size) (fun _ _ => id))
  have hpB : B < w2.heap.size := by have := HB2.out.size; have := (Array.getElem?_eq_some_iff.1 hk1).1; omega
  rw [← hW3]
  clear hW3 ho3 HS2 hk1 hB1 HB2 hA1
  generalize w2.heap.size = p at *
  have hlen : (ofLH zs).length ≤ zs.length := ofLH_len zs
  have HL4 := listH B _ _ W3 hs3 (by omega)
  have HS3 := Lib.hid (And.intro hs3 (And.intro hk3 (And.intro hB3 hp3)))
  clear hs3 hk3 hB3 hp3
  refine ⟨trivial, (callsIn_wide.2 HL4).mono ?_⟩
  clear HL4
  rintro e w4 ⟨v4, rfl, hs4, hb4⟩
  obtain ⟨A4, c4, rfl, _, _, _⟩ := isset_cells hs4
  have hp4 := (hb4.block p (Array.getElem?_eq_some_iff.1 HS3.out.2.2.2).1).trans HS3.out.2.2.2
  have hk4 := (hb4.block B (Array.getElem?_eq_some_iff.1 HS3.out.2.1).1).trans HS3.out.2.1
  have hcp : w4.cell? ⟨p, 0, none⟩ = some (.slice A2 (ofLH zs).length c2) := by rw [cell_of_blk _ _ _ _ _ hp4]; rfl
  have hpl : p < w4.heap.size := (Array.getElem?_eq_some_iff.1 hp4).1
  have hs34 : IsSetH w4 B (.slice A2 (ofLH zs).length c2) (ofLH zs) := HS3.out.1.only (Only.of_below hb4) (fun g hg h => by have := (own_lt HS3.out.1.own hg).1; omega)
  have hBsz : B ≤ W3.heap.size := by have := HS3.out.2.2.1.size; have := HB.out; omega
  have HS4 := Lib.hid (And.intro hs4 (And.intro hs34 (And.intro hp4 (And.intro hk4 (HS3.out.2.2.1.trans (hb4.mono hBsz))))))
  clear hs4 hb4 hp4 hk4 hs34 HS3
  gi_wp2_with fail
  refine ⟨trivial, (callsIn_wide.2 (all _ _)).mono ?_⟩
  rintro e w5 ⟨rfl, rfl⟩
  obtain ⟨W5, hW5⟩ : ∃ W5, W5 = (w4.alloc (.cells #[.slice none 0 0] 33)).alloc (.cells #[.slice A2 (ofLH zs).length c2] 35) := ⟨_, rfl⟩
  have ho5 : Only (fun _ => False) w4 W5 := by rw [hW5]; exact (Only.alloc _ _ _).trans (Only.alloc (fun _ => False) _ _) (fun _ _ => id)
  have hq5 : W5.heap[w4.heap.size]? = some (.cells #[.slice none 0 0] 33 (0, 0)) := by rw [hW5]; exact (Below.heap_alloc _ _ _ (by simp)).trans (heap_alloc_new w4 _)
  have hr5 : W5.heap[w4.heap.size + 1]? = some (.cells #[.slice A2 (ofLH zs).length c2] 35 (0, 0)) := by
    rw [hW5]; have := heap_alloc_new (w4.alloc (.cells #[.slice none 0 0] 33)) (.cells #[.slice A2 (ofLH zs).length c2] 35); rwa [World.size_alloc] at this
  have hBp : B < p := hpB
  have hs2 := HS4.out.2.1.only ho5 (fun _ _ => id)
  have hs4 := HS4.out.1.only ho5 (fun _ _ => id)
  have hk5 := (ho5.block B (by omega) id).trans HS4.out.2.2.2.1
  have hb5 := HS4.out.2.2.2.2.trans (ho5.below (by omega) (fun _ _ => id))
  rw [World.size_alloc, ← hW5]
  have hqp : p < w4.heap.size := hpl
  clear hW5 ho5 HS4 hcp hpl
  generalize w4.heap.size = q at *
  gi_wp2_with fail
  obtain ⟨M, hM⟩ : ∃ M : Nat, kb % 8 = (M : Int) := ⟨(kb % 8).toNat, by omega⟩
  have hM8 : M < 8 := by omega
  generalize hxs : ofLH zs = xs at *
  have HXS := Lib.hid hxs
  have HM := Lib.hid hM
  obtain ⟨D, hD⟩ : ∃ D, W5.heap.size = D := ⟨_, rfl⟩
  have hqD : q + 1 < D := by rw [← hD]; exact (Array.getElem?_eq_some_iff.1 hr5).1
  obtain ⟨A2', c2', e2, hcells2, hmax2, _⟩ := isset_cells hs2
  cases e2
  have hR : ∀ W, Only (fun j => j = q) W5 W → (CellsAt A2 xs W ∧ W.cell? ⟨q + 1, 0, none⟩ = some (.slice A2 xs.length c2)) ∧ W.cell? ⟨B, 0, none⟩ = some (.int .u8 kb) := fun W hO => by
    refine ⟨⟨CellsAt.only hcells2 hO (fun g o e h => ?_), ?_⟩, ?_⟩
    · subst e; exact own_ne_blk hs2.own hq5 (by decide) (by simp [Value.ownBlock, h])
    · rw [hO.cell (p := ⟨q + 1, 0, none⟩) (by show q + 1 < W5.heap.size; omega) (by show ¬ (q + 1 = q); omega), cell_of_blk _ _ _ _ _ hr5]; rfl
    · rw [hO.cell (p := ⟨B, 0, none⟩) (by show B < W5.heap.size; omega) (by show ¬ (B = q); omega), cell_of_blk _ _ _ _ _ hk5]; rfl
  have HR := Lib.hid hR
  have HS := Lib.hid (And.intro hs2 (And.intro hs4 (And.intro hq5 hb5)))
  clear hs2 hs4 hq5 hr5 hk5 hb5 hR hcells2
  refine wpIn_rf_steps (n := 3) rfl (by omega) (gf := 53) (lb := #[.pointer (some ⟨q + 1, 0, none⟩)]) rfl trivial (enters_of Try.func53 (by kernel_rfl) rfl) (encs := encs xs) (N := xs.length) (fun _ => rfl)
    (Rd := fun W => CellsAt A2 xs W ∧ W.cell? ⟨q + 1, 0, none⟩ = some (.slice A2 xs.length c2))
    (fun J Jx hR hY W hJ => all_in 2 (q + 1) _ A2 c2 xs hmax2 J Jx (fun k W h => (hR k W h).1) hY W (hR 0 W hJ).2 hJ)
    (fun k W => k ≤ M ∧ ∃ v, W.heap[q]? = some (.cells #[v] 33 (0, 0)) ∧ RowAt W (D + 2) 37 v ((xs.take k).map (Value.int .u16)) ∧ Only (fun j => j = q) W5 W)
    (fun c _ W => c = .exit 0 ∧ ∃ v, W.heap[q]? = some (.cells #[v] 33 (0, 0)) ∧ RowAt W (D + 2) 37 v ((xs.take M).map (Value.int .u16)) ∧ Only (fun j => j = q) W5 W)
    ?rd ?I ?Ix ?start (fun k a' W => ∃ y, xs[k]? = some y ∧ a' = (⟨#[.slice A zs.length c, .int .u8 kb, undef, .pointer (some ⟨B, 0, none⟩),
          .bool false, .pointer (some ⟨p, 0, none⟩), .slice A4 xs.length c4,
          .pointer (some ⟨q, 0, none⟩), .int .u16 y, .bool true, .bool false,
          .slice A zs.length c, .int .i64 zs.length, .bool false, .slice A zs.length c,
          .agg #[.slice A2 xs.length c2], .agg #[.slice A2 xs.length c2],
          .slice A4 xs.length c4, .agg #[.slice A2 xs.length c2],
          .func (.func 53) #[] #[.pointer (some ⟨q + 1, 0, none⟩)], .int .u16 y, undef, undef, undef,
          undef, undef, undef, undef, undef, undef, undef, undef, undef, undef, undef, undef, undef, undef, undef,
          undef, undef, undef, undef, undef, undef], []⟩ : Act)) ?Ax ?assign ?body ?done ?stop
  case rd => exact fun k W h => (HR.out W h.2.choose_spec.2.2).1
  case I =>
    rw [hD]
    rintro k X Y ⟨h0, v, h1, h2, h3⟩ hO
    exact ⟨h0, v, (hO.block q (by have := h3.size; omega) (by omega)).trans h1, RowAt.only hO h2 (fun g hg e => by have := (h2.lt hg).2; omega), h3.trans hO (fun x hx e => by omega)⟩
  case Ix =>
    rw [hD]
    rintro c k X Y ⟨h0, v, h1, h2, h3⟩ hO
    exact ⟨h0, v, (hO.block q (by have := h3.size; omega) (by omega)).trans h1, RowAt.only hO h2 (fun g hg e => by have := (h2.lt hg).2; omega), h3.trans hO (fun x hx e => by omega)⟩
  case start =>
    rintro W hO hlt
    exact ⟨by omega, _, (hO.block q (by omega) id).trans HS.out.2.2.1, by simpa using RowAt.nil W (D + 2) _, hO.mono (fun _ _ h => h.elim)⟩
  case Ax => exact fun k a' A B h _ => h
  case assign =>
    intro k W K hk hI _ hK
    obtain ⟨y, hy⟩ : ∃ y, xs[k]? = some y := ⟨_, List.getElem?_eq_getElem hk⟩
    have HY := Lib.hid hy
    have he : encs xs k = #[.int .u16 y] := by simp [encs, hy]
    rw [he]
    clear hy he
    gi_wp2
    exact hK _ _ (Only.refl _ _) ⟨y, HY.out, rfl⟩
  case body =>
    rw [hD]
    rintro k a' W hk ⟨hkM, v, hq, hrow, hO⟩ ⟨y, hy, rfl⟩ hDd ⟨r, hDl⟩
    have hcq : W.cell? ⟨q, 0, none⟩ = some v := by rw [cell_of_blk _ _ _ _ _ hq]; rfl
    have hfq : W.frozen? ⟨q, 0, none⟩ = false := by simp [World.frozen?, hq]
    have hcB := (HR.out W hO).2
    have hlen6 : ((xs.take k).map (Value.int .u16)).length = k := by simp; omega
    have hDsz : D + 1 < W.heap.size := (Array.getElem?_eq_some_iff.1 hDl).1
    have HY := Lib.hid hy
    clear hy
    obtain ⟨A6, c6, rfl⟩ := hrow.slice
    rw [hlen6] at hrow hcq hq
    by_cases hkM' : k = M
    · subst hkM'
      have HX := Lib.hid (And.intro hq (And.intro hrow hO))
      clear hq hrow hO hDd hDl
      gi_wp2_with fail
      exact ⟨rfl, rfl, rfl, _, HX.out⟩
    · have hkM2 : (k : Int) < (M : Int) := by omega
      obtain ⟨i, hi, hz0, hz1, hz2⟩ := info_parts infoH
      have ho3 := Only.alloc (fun _ => False) W (.cells #[.int .u16 y] 37)
      have hnew : (W.alloc (.cells #[.int .u16 y] 37)).cell? ⟨W.heap.size, 0, none⟩ = some (.int .u16 y) := by
        rw [cell_of_blk _ _ _ _ _ (heap_alloc_new W _)]; rfl
      obtain ⟨v', w3, hrun, hr4, ho4, hfr⟩ := RowAt.append (P := Try.prog) 33 33 37 i _ 2 Try.underlying33 hi hz0 hz1 hz2 rfl (RowAt.only ho3 hrow (fun _ _ => id)) ⟨W.heap.size, 0, none⟩ (.int .u16 y) hnew rfl (by have := ho3.size; omega) (by rw [hlen6]; simp [maxLen]; omega) (by rw [hlen6]; omega)
      have hlen7 : ((xs.take k).map (Value.int .u16) ++ [Value.int .u16 y]) = (xs.take (k + 1)).map (Value.int .u16) := by rw [take_snoc' xs k y HY.out]; simp
      rw [hlen7] at hr4
      have hlen8 : ((xs.take (k + 1)).map (Value.int .u16)).length = k + 1 := by simp; omega
      rcases hr4.form with ⟨_, h⟩ | ⟨g7, o7, c7, rfl, _⟩
      · rw [h] at hlen8; simp at hlen8
      rw [hlen8] at hr4 hrun
      have hqlt : q < W.heap.size := (Array.getElem?_eq_some_iff.1 hq).1
      have hown : ∀ g, (Value.slice A6 k c6).ownBlock = some g → D + 2 ≤ g := fun g hg => (hrow.lt hg).2
      have h13 := (ho3.mono (S' := fun j => j = q ∨ (Value.slice A6 k c6).ownBlock = some j) (fun _ _ h => h.elim)).trans ho4 (fun _ _ h => .inr h)
      have hq3 : w3.heap[q]? = some (.cells #[.slice A6 k c6] 33 (0, 0)) := (ho4.block q (by simp; omega) (fun h => by have := hown q h; omega)).trans ((ho3.block q hqlt id).trans hq)
      have hcq3 : w3.cell? ⟨q, 0, none⟩ = some (.slice A6 k c6) := by rw [cell_of_blk _ _ _ _ _ hq3]; rfl
      have hfq3 : w3.frozen? ⟨q, 0, none⟩ = false := by simp [World.frozen?, hq3]
      have h14 := h13.trans (Only.setCell w3 ⟨q, 0, none⟩ (.slice (some ⟨g7, o7, none⟩) (k + 1) c7)) (fun _ _ h => .inl h)
      have hfin : rfPost D (fun W => k + 1 ≤ M ∧ ∃ v, W.heap[q]? = some (.cells #[v] 33 (0, 0)) ∧ RowAt W (D + 2) 37 v ((xs.take (k + 1)).map (Value.int .u16)) ∧ Only (fun j => j = q) W5 W)
          (fun c W => c = .exit 0 ∧ ∃ v, W.heap[q]? = some (.cells #[v] 33 (0, 0)) ∧ RowAt W (D + 2) 37 v ((xs.take M).map (Value.int .u16)) ∧ Only (fun j => j = q) W5 W) W .normal ⟨#[], []⟩ (w3.setCell ⟨q, 0, none⟩ (.slice (some ⟨g7, o7, none⟩) (k + 1) c7)) := by
        refine ⟨h14.block D (by omega) ?_, h14.block (D + 1) (by omega) ?_, by omega, _, ?_, RowAt.only (Only.setCell _ _ _) hr4 (fun g hg e => hr4.ne_blk hq3 (by decide) (by rw [hg, e])), hO.trans h14 ?_⟩
        · rintro (h | h)
          · omega
          · have := hown _ h; omega
        · rintro (h | h)
          · omega
          · have := hown _ h; omega
        · simp [World.setCell, Array.getElem?_modify, hq3]
        · rintro j hj (h | h)
          · exact h
          · have := hown j h; omega
      have HF := Lib.hid hfin
      have HRUN := Lib.hid hrun
      clear hfin hrun h14 h13 hq3 ho4 hr4 hrow hq hO hDd hDl hown hfr hlen7 hlen8 hlen6 hnew ho3 hi hz0 hz1 hz2
      gi_wp2_with (first | (gi_at_builtin; refine wpListIn_append_run _ rfl _ _ _ _ rfl _ _ rfl rfl _ _ HRUN.out ?_) | fail)
      exact HF.out
  case done =>
    rw [hD]
    rintro W ⟨hkM, v, hq, hrow, hO⟩ hDd
    have hmin : xs.take xs.length = xs.take M := by rw [List.take_of_length_le (Nat.le_refl _), List.take_of_length_le hkM]
    rw [hmin] at hrow
    clear hkM hmin
    obtain ⟨A6, c6, rfl⟩ := hrow.slice
    have hcq : W.cell? ⟨q, 0, none⟩ = some (.slice A6 ((xs.take M).map (Value.int .u16)).length c6) := by rw [cell_of_blk _ _ _ _ _ hq]; rfl
    have hcB := (HR.out W hO).2
    have h4 : IsSetH W W3.heap.size (.slice A4 xs.length c4) xs := HS.out.2.1.only hO (fun g hg e => own_ne_blk HS.out.2.1.own HS.out.2.2.1 (by decide) (by rw [hg, e]))
    have hfin := tail_facts hrow h4
    have hbW : Below B w W := HS.out.2.2.2.trans (hO.below (by have := HS.out.2.2.2.size; have := HB.out; omega) (fun j hj e => by omega))
    obtain ⟨N, hN, hNx, hl6, heq⟩ := hfin.1
    have hsrt := fun m => hfin.2 m (by omega)
    rw [hl6] at hcq
    have HBW := Lib.hid hbW
    have HEQ := Lib.hid heq
    have HSRT := Lib.hid hsrt
    clear hfin hbW hrow hq hO h4 heq hsrt hl6
    obtain ⟨W6, hW6⟩ : ∃ W6, W6 = W := ⟨_, rfl⟩
    have hNi : (N : Int) ≤ (xs.length : Int) := by omega
    have htm : IntKind.i64.wrap (kb.tmod 8) = (M : Int) := by
      rw [Int.tmod_eq_emod_of_nonneg hkb.1, HM.out]
      simp [IntKind.wrap, IntKind.bits, IntKind.signed]
      omega
    have hNc : (N : Int) ≤ (c4 : Int) := by omega
    gi_wp2_with fail
    refine wpIn_wide.2 ?_
    go_quiet (first
      | (go_at_call 16; exact HEQ.out _ _)
      | (go_at_call 17; exact HSRT.out _))
    gi_wp2
    refine ⟨by simp, .inl ⟨_, _, rfl, run_takeDeferred (w := W.drewN nq) hDd, ?_⟩⟩
    refine ⟨_, results_tmp rfl _ _ _, rfl, ?_⟩
    have hBD : B < D := by omega
    have h1 : Below B w (W.drewN nq) := HBW.out.trans ((Only.drewN (fun _ => False) W nq).below (by have := HBW.out.size; have := HB.out; omega) (fun _ _ => id))
    rw [HB.out]
    exact h1.trans ((Only.putObj _ _ _).below (by have := h1.size; have := HB.out; omega) (fun j hj e => by omega))
  case stop =>
    rw [hD]
    rintro c k W ⟨rfl, v, hq, hrow, hO⟩ hDd
    obtain ⟨A6, c6, rfl⟩ := hrow.slice
    have hcq : W.cell? ⟨q, 0, none⟩ = some (.slice A6 ((xs.take M).map (Value.int .u16)).length c6) := by rw [cell_of_blk _ _ _ _ _ hq]; rfl
    have hcB := (HR.out W hO).2
    have h4 : IsSetH W W3.heap.size (.slice A4 xs.length c4) xs := HS.out.2.1.only hO (fun g hg e => own_ne_blk HS.out.2.1.own HS.out.2.2.1 (by decide) (by rw [hg, e]))
    have hfin := tail_facts hrow h4
    have hbW : Below B w W := HS.out.2.2.2.trans (hO.below (by have := HS.out.2.2.2.size; have := HB.out; omega) (fun j hj e => by omega))
    obtain ⟨N, hN, hNx, hl6, heq⟩ := hfin.1
    have hsrt := fun m => hfin.2 m (by omega)
    rw [hl6] at hcq
    have HBW := Lib.hid hbW
    have HEQ := Lib.hid heq
    have HSRT := Lib.hid hsrt
    clear hfin hbW hrow hq hO h4 heq hsrt hl6
    obtain ⟨W6, hW6⟩ : ∃ W6, W6 = W := ⟨_, rfl⟩
    have hNi : (N : Int) ≤ (xs.length : Int) := by omega
    have htm : IntKind.i64.wrap (kb.tmod 8) = (M : Int) := by
      rw [Int.tmod_eq_emod_of_nonneg hkb.1, HM.out]
      simp [IntKind.wrap, IntKind.bits, IntKind.signed]
      omega
    have hNc : (N : Int) ≤ (c4 : Int) := by omega
    gi_wp2_with fail
    refine wpIn_wide.2 ?_
    go_quiet (first
      | (go_at_call 16; exact HEQ.out _ _)
      | (go_at_call 17; exact HSRT.out _))
    gi_wp2
    refine ⟨by simp, .inl ⟨_, _, rfl, run_takeDeferred (w := W.drewN nq) hDd, ?_⟩⟩
    refine ⟨_, results_tmp rfl _ _ _, rfl, ?_⟩
    have hBD : B < D := by omega
    have h1 : Below B w (W.drewN nq) := HBW.out.trans ((Only.drewN (fun _ => False) W nq).below (by have := HBW.out.size; have := HB.out; omega) (fun _ _ => id))
    rw [HB.out]
    exact h1.trans ((Only.putObj _ _ _).below (by have := h1.size; have := HB.out; omega) (fun j hj e => by omega))
theorem stops_far (A : Option Addr) (n c : Nat) (kb : Int) (w : World) (hn : (decide ((60 : Int) < (n : Int))) = true) :
    Calls Try.prog 4 #[.slice A n c, .int .u8 kb] w fun e w' => e = .returned (.bool true) ∧ Below w.heap.size w w' := by
  go_enter Try.func4, Try.ntmps4
  go_wp2_with fail
  refine (awake _).mono ?_
  rintro e w1 ⟨rfl, hb1⟩
  have HB1 := Lib.hid hb1; clear hb1
  go_wp2
  all_goals go_ret
  all_goals exact ⟨rfl, ((Below.refl w.heap.size w).alloc (Nat.le_refl _) _).trans (HB1.out.mono (by simp))⟩
theorem stops_all (A : Option Addr) (n c : Nat) (zs : List Int) (kb : Int) (w : World) (hz : zs.length = n) (hkb : 0 ≤ kb ∧ kb ≤ 255)
    (hA : ∀ (i : Nat) (hi : i < zs.length), ∃ g o, A = some ⟨g, o, none⟩ ∧ g < w.heap.size ∧ w.cell? ⟨g, o + i, none⟩ = some (.int .u16 zs[i])) :
    Calls Try.prog 4 #[.slice A n c, .int .u8 kb] w fun e w' => e = .returned (.bool true) ∧ Below w.heap.size w w' := by
  by_cases hn : n ≤ 60
  · exact stops_walk A n c zs kb w (by simp; omega) hn hz hkb hA
  · exact stops_far A n c kb w (by simp; omega)
end Go.Proofs.Yteojcdpmlhlfaaa
