/- loops.Deep: in how many loops each place is. Conditions: few loops, few places each. -/
import Derived.Test.YtnkbbjeepdjamaaLDeP
namespace Go.Proofs.Ytnkbbjeepdjamaa
open Go.RowKit
attribute [local go_sem] Oper.semAt_some
def ksD : List Nat := [7, 8, 14, 15, 16, 17, 18, 19, 20, 21, 22, 23, 24, 25, 26, 27, 28, 29, 30, 31, 32, 33, 34, 35, 36]
/-- What is held at the loop's head. -/
structure DHd (X : World) (xss : List (List Int)) (q b N : Nat) (u : Nat → Value) (ds : List Nat) (W : World) : Prop where
  ex : ∃ j : Nat, u 14 = .int .i64 (j : Int) ∧ j ≤ xss.length ∧ Below X.heap.size X W ∧ Marks (b + 1) ds W ∧ Ints W q (inlK (xss.take j) [] N) ∧ W.heap[b]? = some (.cells #[.slice (some ⟨q, 0, none⟩) N N] 31 (0, 0))
set_option linter.unusedSimpArgs false in
set_option maxRecDepth 100000 in
set_option maxHeartbeats 8000000 in
theorem deep_calls {w : World} {base : Nat} {A : Option Addr} {c : Nat} {L : List LEl} {xss : List (List Int)} (x : Int) (N : Nat) (hx : max x 0 = (N : Int)) (hN : N ≤ 200) (hl : LD w base A L xss) (hll : L.length ≤ 100) :
    Calls Try.prog 47 #[.int .i64 x, .slice A L.length c] w fun e w' => ∃ q, e = .returned (.slice (some ⟨q, 0, none⟩) N N) ∧ Ints w' q (inlK xss [] N) ∧ w.heap.size ≤ q ∧ Below w.heap.size w w' := by
  have hmk := mk_zeros N (by omega)
  have hlx := hl.len
  have HL := Lib.hid (And.intro hl hlx)
  rw [hlx] at hll ⊢
  obtain ⟨m, hm⟩ : ∃ m, xss.length = m := ⟨_, rfl⟩
  rw [hm] at hll ⊢
  have HM := Lib.hid hm
  clear hl hlx hm
  refine (callsIn_wide (n := 6)).1 ?_
  refine callsIn_of_wp_marks Try.func47 rfl trivial ?_ rfl
  simp only [Try.ntmps47, List.size_toArray, List.length_cons, List.length_nil, Nat.reduceAdd, Nat.reduceSub, Array.replicate_succ, Array.replicate_zero, List.push_toArray, List.append_toArray, List.nil_append, List.cons_append]
  refine wpIn_wide.2 ?_
  go_upto_region 2 with (fail)
  generalize hX : World.alloc (World.alloc w _) _ = X
  obtain ⟨hx0, hx1, hz, hbx⟩ := two_bx hX
  obtain ⟨q, hq⟩ : ∃ k, w.heap.size = k := ⟨_, rfl⟩
  obtain ⟨b, hb⟩ : ∃ k, q + 1 = k := ⟨_, rfl⟩
  have hix : Ints X q (inlK (xss.take 0) [] N) := by
    rw [List.take_zero, ← inlK_zero, ← hq]; exact hx0
  have HX := Lib.hid (And.intro hbx (And.intro hix (show X.heap[b]? = some (.cells #[.slice (some ⟨q, 0, none⟩) N N] 31 (0, 0)) from by rw [← hb, ← hq]; exact hx1)))
  have hqw : w.heap.size ≤ q ∧ q < b := by omega
  have hbX : b < X.heap.size := lt_blk HX.out.2.2
  rw [hq]
  rw [hb]
  clear hX hx0 hx1 hz hbx hix hq hb hmk
  go_wp2_with fail
  refine wp_loopD (LoopI ksD (DHd w xss q b N)) (fun b _ => m - (intOf (b.tmps.getD 14 undef)).toNat) (LoopI.start rfl ⟨0, rfl, Nat.zero_le _, HX.out.1, Marks.nil _ _, HX.out.2.1, HX.out.2.2⟩) ?_
  rintro fr Wr ⟨u, ds, rfl, ⟨j, hu, hjm, hbw, hmk, hin, hbb⟩⟩
  simp only [ksD, putL, List.map_cons, List.map_nil, List.foldl_cons, List.foldl_nil, Act.put, List.setIfInBounds_toArray, List.set_cons_zero, List.set_cons_succ]
  rw [hu]
  rw [HM.out] at hjm
  have HW := Lib.hid (And.intro hbw (And.intro hmk (And.intro hin hbb)))
  clear hbw hmk hin hu hbb HX
  by_cases hj : j < m
  · have pp1 : ((j : Int) < (m : Int)) = True := eq_true (by omega)
    have j0 : 0 ≤ (j : Int) := by omega
    have j1 : (j : Int) < (m : Int) := by omega
    obtain ⟨⟨xh, xA, xk, xc⟩, hxe⟩ : ∃ e, L[j]? = some e := ⟨_, List.getElem?_eq_getElem (by have := HL.out.2; have := HM.out; omega)⟩
    obtain ⟨qL, xs, rfl, c0', c1', k⟩ := HL.out.1.at_ j _ hxe
    simp only [LEl.v] at c0' c1' k
    have hk := k.2.2.1
    subst hk
    replace c0' := (HW.out.1.cell (World.block_lt_of_cell? _ _ c0')).trans c0'
    replace c1' := (HW.out.1.cell (World.block_lt_of_cell? _ _ c1')).trans c1'
    obtain ⟨Ax5, cx5, ex5, hca5, hmx5⟩ := SI.isset_cellsAt k.1
    injection ex5 with e1 e2 e3
    subst e1 e3
    clear e2
    have HXS := Lib.hid (And.intro k.1 (And.intro hca5 (And.intro k.2.1 k.2.2.2)))
    go_upto_region 5 with (fail)
    generalize hX : World.alloc Wr _ = X1
    obtain ⟨hx', hbx, hz⟩ := boxed hX rfl
    obtain ⟨P, hP⟩ : ∃ k, Wr.heap.size = k := ⟨_, rfl⟩
    have HX1 := Lib.hid (And.intro (below_two HW.out.1 hbx) (And.intro (HW.out.2.1.only (Only.of_below hbx) (fun D hD e => by have := HW.out.2.1.lt hD; omega)) (And.intro (HW.out.2.2.1.later hbx) (And.intro ((hbx.block _ (lt_blk HW.out.2.2.2)).trans HW.out.2.2.2) (hP ▸ hx')))))
    rw [hP]
    clear hX hx' hbx hz hP k hxe c0' c1' HW hca5
    have x0 := cell_of_blk _ _ _ _ _ HX1.out.2.2.2.2 0
    have x1 := cell_of_blk _ _ _ _ _ HX1.out.2.2.2.2 1
    simp at x0 x1
    have hal := SI.all (.slice xA xs.length xc) X1
    have HAL := Lib.hid hal
    clear hal
    go_wp2_with fail
    clear x0 x1
    refine HAL.out.mono ?_
    rintro e W5 ⟨rfl, hW5⟩
    obtain ⟨hx', hbx, hz⟩ := boxed hW5.symm rfl
    obtain ⟨BX, hBX⟩ : ∃ k, X1.heap.size = k := ⟨_, rfl⟩
    have H5 := Lib.hid (show Below w.heap.size w W5 ∧ Marks (b + 1) ds W5 ∧ Ints W5 q (inlK (xss.take j) [] N) ∧ W5.heap[b]? = some (.cells #[.slice (some ⟨q, 0, none⟩) N N] 31 (0, 0)) ∧ W5.heap[BX]? = some (.cells #[.slice xA xs.length xc] 57 (0, 0)) ∧ b < BX from
      ⟨below_two HX1.out.1 hbx, HX1.out.2.1.only (Only.of_below hbx) (fun D hD e => by have := HX1.out.2.1.lt hD; omega), HX1.out.2.2.1.later hbx, (hbx.block _ (lt_blk HX1.out.2.2.2.1)).trans HX1.out.2.2.2.1, hBX ▸ hx', by have := lt_blk HX1.out.2.2.2.1; omega⟩)
    rw [hBX]
    clear hW5 hx' hbx hz hBX HAL HX1
    go_wp2_with fail
    refine (wpIn_wide (n := 6)).1 ?_
    generalize hact : (Act.mk _ _ : Act) = a1
    have hXb : ∀ {W : World}, Only (fun g => W5.heap.size ≤ g ∨ g = q) W5 W → Below w.heap.size w W := fun ho => H5.out.1.trans (ho.below H5.out.1.size (fun k hk e => by have := H5.out.1.size; omega))
    refine wp_each (BX := BX) (A := xA) (c := xc) (xs := xs) hmx5 (by rw [← hact]; rfl) rfl (fun k W => Only (fun g => W5.heap.size ≤ g ∨ g = q) W5 W ∧ Ints W q (inlK (xss.take j) (xs.take k) N)) ?rd1 ?I1 ?s1 (fun y a' => a' = Act.mk ((a1.tmps.setIfInBounds 21 (.int .i64 y)).setIfInBounds 8 (.int .i64 y)) []) ?as1 ?body1 ?done1
    case rd1 =>
      rintro k W ⟨ho, -⟩
      have hBYl := lt_blk H5.out.2.2.2.2.1
      have hcB := cell_of_blk _ _ _ _ _ H5.out.2.2.2.2.1 0
      exact ⟨cellsAt_old HXS.out.2.1 (Only.of_below (hXb ho)) (fun g o e hg => by have := (isset_lt HXS.out.1 (g := g) (by rw [e]; rfl)).2; omega), (ho.cell (p := ⟨BX, 0, none⟩) hBYl (fun e => by have := H5.out.2.2.2.2.2; have e : W5.heap.size ≤ BX ∨ BX = q := e; omega)).trans hcB⟩
    case I1 =>
      rintro k A' B' ⟨ho, hc⟩ ho2
      have hql : q < W5.heap.size := lt_blk H5.out.2.2.1
      exact ⟨ho.trans ho2 (fun g _ e => .inl (by omega)), hc.only ho2 (by omega)⟩
    case s1 =>
      intro W ho
      exact ⟨ho.mono (fun _ _ e => e.elim), by rw [List.take_zero]; exact H5.out.2.2.1.only ho id⟩
    case as1 =>
      intro y W K hK
      subst hact
      gi_wp2
    case body1 =>
      rintro k z a' W' hy rfl ⟨ho, hc⟩ hlt
      subst hact
      simp only [List.setIfInBounds_toArray, List.set_cons_zero, List.set_cons_succ]
      have hbb : W'.heap[b]? = some (.cells #[.slice (some ⟨q, 0, none⟩) N N] 31 (0, 0)) := (ho.block b (lt_blk H5.out.2.2.2.1) (fun e => by have := lt_blk H5.out.2.2.2.1; omega)).trans H5.out.2.2.2.1
      have cb := cell_of_blk _ _ _ _ _ hbb 0
      have hql : q < W5.heap.size := lt_blk H5.out.2.2.1
      have htk : xs.take (k + 1) = xs.take k ++ [z] := by rw [List.take_add_one, hy]; rfl
      have hzk : z ∉ xs.take k := fun hm => by
        have hnd := srt_nodup ordI HXS.out.1.srt
        obtain ⟨i, hi, e⟩ := List.getElem_of_mem hm
        rw [List.getElem_take] at e
        have hik : i < k ∧ i < xs.length := by simp at hi; omega
        have hk2 := List.getElem?_eq_some_iff.1 hy
        have hne := List.pairwise_iff_getElem.1 (List.nodup_iff_pairwise_ne.1 hnd) i k hik.2 hk2.1 hik.1
        exact hne (e.trans hk2.2.symm)
      have HH := Lib.hid (And.intro ho (And.intro hc (And.intro htk (And.intro hzk (And.intro hlt hql)))))
      simp at cb
      clear ho htk hzk hy hbb hlt hql
      by_cases hz0 : 0 ≤ z
      · by_cases hzN : z < (N : Int)
        · obtain ⟨v, rfl⟩ := Int.eq_ofNat_of_zero_le hz0
          have hvN : v < N := by omega
          have hle := inl_le (xss.take j) v
          have hle2 : (xss.take j).length ≤ m := by have := HM.out; simp; omega
          have cz := hc.cell (inlK_get (L := xss.take j) (ys := xs.take k) hvN)
          rw [if_neg HH.out.2.2.2.1, Nat.add_zero] at cz
          have fz := hc.frozen v
          have hset := hc.set v ((inl (xss.take j) v : Nat) + 1)
          rw [inlK_put hvN, ← HH.out.2.2.1] at hset
          have hos := Only.setCell W' ⟨q, v, none⟩ (.int .i64 ((inl (xss.take j) v : Int) + 1))
          have HS := Lib.hid (And.intro hset hos)
          obtain ⟨iv, hiv⟩ : ∃ iv, inl (xss.take j) v = iv := ⟨_, rfl⟩
          rw [hiv] at cz HS hle
          have ew : IntKind.i64.wrap ((iv : Int) + 1) = (iv : Int) + 1 := by rw [IntKind.wrap_i64]; omega
          clear hc hset hos hiv
          gi_wp2_with fail
          refine ⟨?_, ?_, ?_, ?_⟩
          · exact HS.out.2.block _ (by have := HH.out.2.2.2.2.1; omega) (fun e => by have e : W5.heap.size = q := e; have := HH.out.2.2.2.2.2; omega)
          · exact HS.out.2.block _ HH.out.2.2.2.2.1 (fun e => by have e : W5.heap.size + 1 = q := e; have := HH.out.2.2.2.2.2; omega)
          · exact HH.out.1.trans HS.out.2 (fun g _ e => .inr e)
          · exact HS.out.1
        · have HK := Lib.hid (show ¬ (0 ≤ z ∧ z < (N : Int)) from fun e => hzN e.2)
          have pz : (z < (N : Int)) = False := eq_false hzN
          clear hc hzN
          gi_wp2_with fail
          exact ⟨rfl, rfl, HH.out.1, by rw [HH.out.2.2.1, inlK_skip HK.out]; exact HH.out.2.1⟩
      · have HK := Lib.hid (show ¬ (0 ≤ z ∧ z < (N : Int)) from fun e => hz0 e.1)
        have pz : (0 ≤ z) = False := eq_false hz0
        clear hc hz0
        gi_wp2_with fail
        exact ⟨rfl, rfl, HH.out.1, by rw [HH.out.2.2.1, inlK_skip HK.out]; exact HH.out.2.1⟩
    case done1 =>
      rintro W6 ⟨ho, hc⟩ hD
      subst hact
      obtain ⟨D, hDe⟩ : ∃ D, W5.heap.size = D := ⟨_, rfl⟩
      have hmk : Marks (b + 1) (D :: ds) W6 := Marks.cons (H5.out.2.1.only ho (fun D' hD' e => by have := H5.out.2.1.lt hD'; have := (H5.out.2.1.at_ D' hD').1; omega)) (by have := lt_blk H5.out.2.2.2.1; omega) (hDe ▸ hD) (fun e => by have := H5.out.2.1.lt e; omega)
      have hbb := (ho.block b (lt_blk H5.out.2.2.2.1) (fun e => by have := lt_blk H5.out.2.2.2.1; omega)).trans H5.out.2.2.2.1
      have htk : xss.take (j + 1) = xss.take j ++ [xs] := by rw [List.take_add_one, HXS.out.2.2.1]; rfl
      rw [List.take_length, inlK_all, ← htk] at hc
      have H6 := Lib.hid (And.intro (hXb ho) (And.intro hmk (And.intro hc hbb)))
      unfold mark
      rw [hDe]
      clear ho hc hD hmk hDe hbb htk H5 hXb
      go_wp2_with fail
      refine ⟨LoopI.mk (ds := D :: ds) (by kernel_rfl) ⟨j + 1, by go_num, by have := HM.out; omega, H6.out.1, H6.out.2.1, H6.out.2.2.1, H6.out.2.2.2⟩, ?_⟩
      simp [intOf]
      omega
  · obtain rfl : j = m := by omega
    have pp1 : ((j : Int) < (j : Int)) = False := eq_false (by omega)
    have cb := cell_of_blk _ _ _ _ _ HW.out.2.2.2 0
    simp at cb
    go_wp2_with fail
    refine Marks.leave (by simp) (lo := b + 1) ds _ HW.out.2.1 (fun w' ho => ?_)
    have hin := HW.out.2.2.1
    rw [← HM.out, List.take_length] at hin
    refine ⟨.slice (some ⟨q, 0, none⟩) N N, by simp [results, Try.results47, go_sem], q, rfl, hin.only ho (fun e => by have := (HW.out.2.1.at_ q e).1; omega), hqw.1, ?_⟩
    exact HW.out.1.trans (ho.below HW.out.1.size (fun k hk e => by have := (HW.out.2.1.at_ k e).1; omega))
end Go.Proofs.Ytnkbbjeepdjamaa
