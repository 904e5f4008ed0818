/- refinerylaw07.GraphAhead: the walk. Conditions: the numbers are of their kinds. -/
import Derived.Test.YtffnkbicbfjnpaaGAheadQ
namespace Go.Proofs.Ytffnkbicbfjnpaa
open Go.RowKit
set_option maxHeartbeats 2000000 in
theorem ahead_far (N : Nat) (A : Option Addr) (c : Nat) (es : List (Nat × Nat)) (W : World) (hl : ¬ es.length ≤ 40) :
    Calls Try.prog 8 #[.agg #[.int .u8 N, .slice A es.length c]] W fun e W' => e = .returned (.bool true) ∧ Below W.heap.size W W' := by
  go_enter Try.func8, Try.ntmps8
  go_wp2_with fail
  generalize hX : World.alloc W _ = X
  obtain ⟨hx, hbx, hz⟩ := boxed hX rfl
  have HX := Lib.hid (And.intro hx (And.intro hbx hz))
  clear hX hx hbx hz
  refine (gawake_calls X).mono ?_
  rintro e W1 ⟨rfl, hb⟩
  have H1 := Lib.hid (And.intro ((hb.block _ (lt_blk HX.out.1)).trans HX.out.1) (below_two HX.out.2.1 hb))
  clear hb HX
  have x0 := cell_of_blk _ _ _ _ _ H1.out.1 0
  have x1 := cell_of_blk _ _ _ _ _ H1.out.1 1
  simp at x0 x1
  go_wp2_with fail
  clear x0 x1
  refine (light_calls7 N A es.length c W1).mono ?_
  rintro e W2 ⟨rfl, hb⟩
  have hbel := below_two H1.out.2 hb
  rw [decide_eq_false hl]
  clear hb H1
  go_wp2_with fail
  go_ret
  exact ⟨rfl, hbel⟩
/-- While the rising ways are gathered. -/
structure AL (W : World) (N : Nat) (A : Option Addr) (c n : Nat) (es : List (Nat × Nat)) (U j : Nat) (X : World) : Prop where
  sb : X.heap[W.heap.size]? = some (.cells #[.int .u8 N, .slice A es.length c] 76 (0, 0))
  ub : ∃ v, X.heap[U]? = some (.cells #[.int .u8 0, v] 76 (0, 0)) ∧ Own2 X W.heap.size v (rises n (es.take j)) ∧ v.ownBlock ≠ some W.heap.size
  below : Below W.heap.size W X
  lt : W.heap.size < U
theorem AL.later {W X X' : World} {N : Nat} {A : Option Addr} {c n : Nat} {es : List (Nat × Nat)} {U j : Nat} (h : AL W N A c n es U j X) (hb : Below X.heap.size X X') : AL W N A c n es U j X' := by
  obtain ⟨v, h1, h2, h3⟩ := h.ub
  exact ⟨(hb.block _ (lt_blk h.sb)).trans h.sb, ⟨v, (hb.block _ (lt_blk h1)).trans h1, h2.only (Only.of_below hb) (fun g hg e => by have := (h2.lt hg).2; omega), h3⟩, below_two h.below hb, h.lt⟩
set_option maxRecDepth 100000 in
set_option maxHeartbeats 8000000 in
theorem ahead_near (N : Nat) (A : Option Addr) (c : Nat) (es : List (Nat × Nat)) (W : World) (hN : N ≤ 255) (hA : Edges W A es) (hc : es.length ≤ c) (hl : es.length ≤ 40) :
    Calls Try.prog 8 #[.agg #[.int .u8 N, .slice A es.length c]] W fun e W' => e = .returned (.bool true) ∧ Below W.heap.size W W' := by
  have HA := Lib.hid (And.intro hA hc)
  clear hA hc
  obtain ⟨n, hn⟩ : ∃ n, 1 + N % 12 = n := ⟨_, rfl⟩
  have hn0 : 0 < n := by omega
  have hn12 : n ≤ 12 := by omega
  have HN := Lib.hid hn
  have e1 : IntKind.u8.wrap (1 + (N : Int) % 12) = (n : Int) := by simp [IntKind.wrap, IntKind.bits, IntKind.signed]; omega
  clear hn
  go_enter Try.func8, Try.ntmps8
  go_wp2_with fail
  generalize hX : World.alloc W _ = X
  obtain ⟨hx, hbx, hz⟩ := boxed hX rfl
  have HX := Lib.hid (And.intro hx (And.intro hbx hz))
  clear hX hx hbx hz
  refine (gawake_calls X).mono ?_
  rintro e W1 ⟨rfl, hb⟩
  have H1 := Lib.hid (And.intro ((hb.block _ (lt_blk HX.out.1)).trans HX.out.1) (below_two HX.out.2.1 hb))
  clear hb HX
  have x0 := cell_of_blk _ _ _ _ _ H1.out.1 0
  have x1 := cell_of_blk _ _ _ _ _ H1.out.1 1
  simp at x0 x1
  go_wp2_with fail
  clear x0 x1
  refine (light_calls7 N A es.length c W1).mono ?_
  rintro e W2 ⟨rfl, hb⟩
  have H2 := Lib.hid (And.intro ((hb.block _ (lt_blk H1.out.1)).trans H1.out.1) (below_two H1.out.2 hb))
  rw [decide_eq_true hl]
  clear hb H1
  have x0 := cell_of_blk _ _ _ _ _ H2.out.1 0
  have x1 := cell_of_blk _ _ _ _ _ H2.out.1 1
  have hlt2 := lt_blk H2.out.1
  simp at x0 x1
  go_wp2_with fail
  clear x0 x1
  generalize hX : World.alloc W2 _ = X
  obtain ⟨hx, hbx, hz⟩ := boxed hX rfl
  obtain ⟨U, hU⟩ : ∃ U, W2.heap.size = U := ⟨_, rfl⟩
  rw [hU] at hx hz
  rw [hU]
  have HX := Lib.hid (show AL W N A c n es U 0 X from ⟨(hbx.block _ hlt2).trans H2.out.1, ⟨_, hx, by rw [List.take_zero]; exact World.ownsRow_nil _ _ _ _, by simp [Value.ownBlock]⟩, below_two H2.out.2 hbx, by omega⟩)
  clear hX hx hbx hz hU H2 hlt2
  go_loopw [26] (fun i wr => ∃ j : Nat, i = .int .i64 (j : Int) ∧ Hid (j ≤ es.length ∧ AL W N A c n es U j wr)) (fun i _ => es.length - (intOf i).toNat)
  case atStart => exact ⟨0, rfl, Lib.hid ⟨Nat.zero_le _, HX.out⟩⟩
  case round =>
    clear HX
    obtain ⟨j, rfl, HI⟩ := hrel
    have hj0 := HI.out.1
    have HG := Lib.hid HI.out.2
    clear HI
    by_cases hj : j < es.length
    · obtain ⟨⟨x, y⟩, hxy⟩ : ∃ e, es[j]? = some e := ⟨_, List.getElem?_eq_getElem hj⟩
      obtain ⟨hx, hy, g0, o0, rfl, c0, c1⟩ := (HA.out.1.later HG.out.below) j x y hxy
      have pp1 : ((j : Int) < (es.length : Int)) = True := eq_true (by omega)
      have x0 := cell_of_blk _ _ _ _ _ HG.out.sb 0
      have hsl := lt_blk HG.out.sb
      have hsne : W.heap.size ≠ wr.heap.size := by omega
      simp at x0
      have HXY := Lib.hid hxy
      clear hxy
      have hn1 : ((n : Int) == 0) = false := beq_eq_false_iff_ne.mpr (by omega)
      go_wp2_with fail
      go_quiet (fail)
      clear hn1 c0 c1 x0 pp1
      generalize hZ : World.drewN (World.alloc wr _) nq = Z
      have hbZ : Below wr.heap.size wr Z := hZ ▸ below_two ((Below.refl _ _).alloc (Nat.le_refl _) _) (below_drewN' _ nq)
      have hez : Z.heap[wr.heap.size]? = some (.cells #[.int .u8 x, .int .u8 y] 77 (0, 0)) := by
        rw [← hZ]
        exact ((Only.drewN (fun _ => False) _ nq).block _ (by simp) id).trans (heap_alloc_new' wr _)
      have hgZ := HG.out.later hbZ
      have HZ := Lib.hid (And.intro hgZ (And.intro hez hbZ.size))
      clear hZ hbZ hez hgZ HG
      obtain ⟨xi, hxi⟩ : ∃ i, x % n = i := ⟨_, rfl⟩
      obtain ⟨yi, hyi⟩ : ∃ i, y % n = i := ⟨_, rfl⟩
      rw [show (x : Int) % (n : Int) = (xi : Int) by omega, show (y : Int) % (n : Int) = (yi : Int) by omega]
      by_cases hlt : xi < yi
      · have HLT := Lib.hid (show x % n < y % n by omega)
        clear hxi hyi
        have e0 := cell_of_blk _ _ _ _ _ HZ.out.2.1 0
        have e1 := cell_of_blk _ _ _ _ _ HZ.out.2.1 1
        obtain ⟨v, hu, ho, hvs⟩ := HZ.out.1.ub
        have x1 := cell_of_blk _ _ _ _ _ hu 1
        simp at e0 e1 x1
        have hvU : v.ownBlock ≠ some U := ho.ne_blk hu (by decide)
        have hbx : Below Z.heap.size Z (Z.alloc (.cells #[.int .u8 x, .int .u8 y] 77)) := (Below.refl _ _).alloc (Nat.le_refl _) _
        have hnb := heap_alloc_new' Z (.cells #[.int .u8 x, .int .u8 y] 77)
        obtain ⟨v', w5, hrn, k1, k2⟩ := own2_append (ho.only (Only.of_below hbx) (fun g hg e => by have := (ho.lt hg).2; omega)) ⟨Z.heap.size, 0, none⟩ x y (cell_of_blk _ _ _ _ _ hnb 0) (cell_of_blk _ _ _ _ _ hnb 1) (Nat.le_trans HZ.out.1.below.size hbx.size) (Nat.le_trans (rises_len _ _) (by rw [List.length_take]; omega))
        obtain ⟨A1, c1, rfl, hc1⟩ := ho.slice
        obtain ⟨A2, c2, rfl, hc2⟩ := k1.slice
        generalize (rises n (es.take j) ++ [(x, y)]).length = m2 at *
        have ho5 : Only (fun k => (Value.slice A1 (rises n (es.take j)).length c1).ownBlock = some k) Z w5 := ((Only.of_below hbx).mono (fun k hk e => by omega)).trans k2 (fun _ _ e => e)
        have hul := lt_blk hu
        have u5' := (ho5.block U hul hvU).trans hu
        have y1 := cell_of_blk _ _ _ _ _ u5' 1
        have f1 : w5.frozen? ⟨U, 1, none⟩ = false := by simp [World.frozen?, u5']
        simp at y1
        have HR := Lib.hid hrn
        have H5 := Lib.hid (And.intro k1 (And.intro ho5 (And.intro u5' (And.intro hvU (And.intro hvs (And.intro hu ho))))))
        clear hrn k1 k2 ho5 u5' hvU hvs hu ho hbx hnb hul
        go_wp2_with (first | (at_builtin; refine Lib.wpList_append_run _ rfl _ _ _ _ rfl _ _ rfl rfl _ _ HR.out ?_) | fail)
        clear e0 e1 x1 y1 f1
        go_roundw
        case rel =>
          refine ⟨j + 1, by go_num, Lib.hid ⟨by omega, ?_⟩⟩
          have ho := Only.setCell w5 ⟨U, 1, none⟩ (.slice A2 m2 c2)
          have hne : ∀ g, (Value.slice A2 m2 c2).ownBlock = some g → g ≠ U := fun g hg e => H5.out.1.ne_blk H5.out.2.2.1 (by decide) (e ▸ hg)
          have hsl5 : W.heap.size < Z.heap.size := by have := HZ.out.2.2; omega
          have hs5 := (H5.out.2.1.block W.heap.size hsl5 H5.out.2.2.2.2.1).trans HZ.out.1.sb
          have hUs : W.heap.size ≠ U := by have := HZ.out.1.lt; omega
          refine ⟨(ho.block W.heap.size (lt_blk hs5) hUs).trans hs5, ⟨.slice A2 m2 c2, ?_, ?_, H5.out.1.ne_blk hs5 (by decide)⟩, ?_, HZ.out.1.lt⟩
          · have := H5.out.2.2.1
            simp [World.setCell, Array.getElem?_modify, this]
          · rw [take_snoc' es j (x, y) HXY.out, rises_snoc, if_pos HLT.out]
            exact H5.out.1.only ho hne
          · refine (HZ.out.1.below.trans (H5.out.2.1.below HZ.out.1.below.size (fun k hk e => ?_))).setCell (by have := HZ.out.1.lt; show W.heap.size ≤ U; omega) _
            have := (H5.out.2.2.2.2.2.2.lt e).1
            omega
        case measure => simp [intOf]; omega
      · have HLT := Lib.hid (show ¬ x % n < y % n by omega)
        clear hxi hyi
        go_wp2_with fail
        go_roundw
        case rel =>
          refine ⟨j + 1, by go_num, Lib.hid ⟨by omega, ?_⟩⟩
          obtain ⟨v, hu, ho, hvs⟩ := HZ.out.1.ub
          exact ⟨HZ.out.1.sb, ⟨v, hu, by rw [take_snoc' es j (x, y) HXY.out, rises_snoc, if_neg HLT.out]; exact ho, hvs⟩, HZ.out.1.below, HZ.out.1.lt⟩
        case measure => simp [intOf]; omega
    · obtain rfl : j = es.length := by omega
      have pp1 : ((es.length : Int) < (es.length : Int)) = False := eq_false (by omega)
      obtain ⟨v, hu, ho, hvs⟩ := HG.out.ub
      rw [List.take_length] at ho
      obtain ⟨A1, c1, rfl, hc1⟩ := ho.slice
      have x0 := cell_of_blk _ _ _ _ _ HG.out.sb 0
      have x1 := cell_of_blk _ _ _ _ _ hu 1
      have x2 := cell_of_blk _ _ _ _ _ hu 0
      have f0 : wr.frozen? ⟨U, 0, none⟩ = false := by simp [World.frozen?, hu]
      have hUs : U ≠ W.heap.size := by have := HG.out.lt; omega
      have hul := lt_blk hu
      simp at x0 x1 x2
      generalize hm1 : (rises n es).length = m1 at *
      have hset : (wr.setCell ⟨U, 0, none⟩ (.int .u8 N)).heap[U]? = some (.cells #[.int .u8 N, .slice A1 m1 c1] 76 (0, 0)) := by simp [World.setCell, Array.getElem?_modify, hu]
      have hso := Only.setCell wr ⟨U, 0, none⟩ (.int .u8 N)
      have hbel : Below W.heap.size W (wr.setCell ⟨U, 0, none⟩ (.int .u8 N)) := HG.out.below.setCell (by have := HG.out.lt; show W.heap.size ≤ U; omega) _
      have ho' := ho.only hso (fun g hg e => ho.ne_blk hu (by decide) (by rw [hg]; exact congrArg some e))
      have y0 := cell_of_blk _ _ _ _ _ hset 0
      have y1 := cell_of_blk _ _ _ _ _ hset 1
      simp at y0 y1
      have HS := Lib.hid (And.intro hbel (And.intro ho' hc1))
      have HM := Lib.hid hm1
      clear hu ho hvs hset hso hbel ho' hul hUs HG hm1 hc1 e1
      go_wp2_with fail
      have hcl := HM.out ▸ small_calls N hN A1 c1 (rises n es) _ (HS.out.2.1.edges (fun e he => by
        obtain ⟨k, hk, hke⟩ := List.getElem_of_mem (rises_mem he).1
        obtain ⟨h1, h2, _⟩ := HA.out.1 k e.1 e.2 (by rw [List.getElem?_eq_getElem hk, hke])
        exact ⟨h1, h2⟩)) (by rw [HM.out]; exact HS.out.2.2) (Nat.le_trans (rises_len n es) (by omega))
      rw [HN.out] at hcl
      have HCL := Lib.hid hcl
      have hrw := graph_rows n hn0 (rises n es)
      have hrise := graphB_rise n _ (rises n es) rfl (fun e he => (rises_mem he).2)
      generalize wr.setCell ⟨U, 0, none⟩ (.int .u8 N) = w4 at *
      have HB4 := Lib.hid HS.out.1
      have HRW := Lib.hid (And.intro hrw hrise)
      clear hcl hrw hrise x0 x1 x2 y0 y1 f0 HS HM
      refine HCL.out.mono ?_
      rintro e W3 ⟨gv, q, vs, S, rfl, hg, hm, hap, hb3⟩
      have hrw := HRW.out.1
      have hrise := HRW.out.2
      generalize graphB n (rises n es) = b at *
      generalize graphA n (rises n es) = a at *
      obtain ⟨q1, p1, rfl⟩ := hg.form
      rw [hrw.lb] at hg ⊢
      have HG := Lib.hid (And.intro (hg.lower HB4.out.size) (And.intro (hm.lower HB4.out.size) (And.intro (below_two HB4.out hb3) (And.intro hrw (And.intro hrise hap)))))
      clear hg hm hap hb3 hrw hrise HRW HCL HB4
      go_wp2_with fail
      generalize hX : World.alloc W3 _ = X
      obtain ⟨hx, hbx, hz⟩ := boxed hX rfl
      obtain ⟨B, hB⟩ : ∃ B, W3.heap.size = B := ⟨_, rfl⟩
      rw [hB] at hx hz
      rw [hB]
      have hlb := HG.out.2.2.2.1.lb
      have hfew : Few b := HG.out.2.2.2.1.fewOf (by omega)
      have hgl : GL W W.heap.size n b a B q1 p1 q vs S X := ⟨HG.out.1.later hbx, HG.out.2.1.later hbx, cell_of_blk _ _ _ _ _ hx 0, cell_of_blk _ _ _ _ _ hx 1, below_two HG.out.2.2.1 hbx⟩
      have hap := ahead_order hn0 hlb hfew HG.out.2.2.2.2.1
      have hrp := reach_plain hn0 hlb hfew
      have hwo := WO.gives hgl.gr hfew
      have HGL := Lib.hid hgl
      have HF := Lib.hid (And.intro hlb hfew)
      have HAP := Lib.hid hap
      have HRP := Lib.hid hrp
      have HWO := Lib.hid hwo
      clear hX hx hbx hz hB hlb hfew hgl hap hrp hwo HG
      refine HWO.out.mono ?_
      rintro e W5 ⟨v1, rfl, hr1, hb1⟩
      rw [HF.out.1] at hr1
      obtain ⟨A2, c2, rfl, _, _, _⟩ := rowAt_slice hr1
      simp only [List.length_map] at hr1
      obtain ⟨o, ho⟩ : ∃ o, (dfs0 (nb b) n).post.reverse = o := ⟨_, rfl⟩
      obtain ⟨p, hp⟩ : ∃ p, (dfs0 (nb b) n).pre = p := ⟨_, rfl⟩
      rw [ho] at hr1 HAP
      rw [hp] at HAP HRP
      rw [ho, List.length_map]
      have hol : o.length ≤ 12 := by have := HAP.out.len; have := HRP.out.le; omega
      have hmm := fun W => run_makeMap (P := Try.prog) 83 W
      have H5 := Lib.hid (And.intro (HGL.out.later hb1) (hr1.lower (base' := W.heap.size) HGL.out.below.size))
      clear hr1 hb1 ho hp HWO HGL
      go_wp2_with fail
      generalize hX : World.alloc W5 _ = X5
      obtain ⟨hx, hbx, hz⟩ := boxed hX rfl
      obtain ⟨m, hm⟩ : ∃ m, W5.heap.size = m := ⟨_, rfl⟩
      have hat := AtIs.new W5 o
      rw [hX, hm] at hat
      rw [hm]
      have H6 := Lib.hid (And.intro hat (And.intro hbx hm))
      clear hX hx hbx hz hm hat hmm
      go_loopw [63] (fun i wr => ∃ k : Nat, i = .int .i64 (k : Int) ∧ Hid (k ≤ o.length ∧ Below W5.heap.size W5 wr ∧ ∃ al, AtIs wr m o k al)) (fun i _ => o.length - (intOf i).toNat)
      case atStart => exact ⟨0, rfl, Lib.hid ⟨Nat.zero_le _, H6.out.2.1, _, H6.out.1⟩⟩
      case round =>
        obtain ⟨k, rfl, HI⟩ := hrel
        obtain ⟨hk0, hbk, al, hal⟩ := HI.out
        clear HI
        have hr := H5.out.2.only (Only.of_below hbk) (fun g hg e => by have := (H5.out.2.lt hg).1; omega)
        by_cases hk : k < o.length
        · obtain ⟨x, hx⟩ : ∃ x, o[k]? = some x := ⟨_, List.getElem?_eq_getElem hk⟩
          obtain ⟨w', hrun, hal', ho'⟩ := hal.put HAP.out.nd hx
          obtain ⟨g0, o0, rfl⟩ : ∃ g o, A2 = some ⟨g, o, none⟩ := by
            rcases hr with ⟨h1, h2⟩ | ⟨g, o, cap, cur, h1, _⟩
            · have : o = [] := by simpa using h2
              rw [this] at hk; simp at hk
            · injection h1 with h1; exact ⟨g, o, h1⟩
          have hc := hr.cell k (iv x) (by rw [List.getElem?_map, hx]; rfl)
          unfold iv at hc
          have pp1 : ((k : Int) < (o.length : Int)) = True := eq_true (by omega)
          have i0 : 0 ≤ (k : Int) := by omega
          have i1 : (k : Int) < (o.length : Int) := by omega
          have HN2 := Lib.hid (And.intro hbk (And.intro hal' ho'))
          clear hal hal' ho' hr hbk hx
          go_wp2_with fail
          go_roundw
          case rel => exact ⟨k + 1, by go_num, Lib.hid ⟨by omega, HN2.out.1.trans (HN2.out.2.2.below HN2.out.1.size (fun j hj e => by have := H6.out.2.2; omega)), _, HN2.out.2.1⟩⟩
          case measure => simp [intOf]; omega
        · obtain rfl : k = o.length := by omega
          have pp1 : ((o.length : Int) < (o.length : Int)) = False := eq_false (by omega)
          have hgl := H5.out.1.later hbk
          have g0 := hgl.c0
          have g1 := hgl.c1
          have hre := reached_calls hgl.gr HF.out.2
          rw [HF.out.1, HRP.out.seen] at hre
          have H7 := Lib.hid (And.intro hgl (And.intro hr (And.intro hal hre)))
          clear hgl hr hal hre hbk
          go_wp2_with fail
          clear g0 g1
          refine H7.out.2.2.2.mono ?_
          rintro e W8 ⟨q6, rfl, hs6, hq6, hb6⟩
          have H8 := Lib.hid (And.intro (H7.out.1.later hb6) (And.intro (H7.out.2.1.only (Only.of_below hb6) (fun g hg e => by have := (H7.out.2.1.lt hg).1; omega)) (And.intro (H7.out.2.2.1.only (Only.of_below hb6) (fun e => by have := H7.out.2.2.1.map.lt; omega)) hs6)))
          clear hs6 hq6 hb6 H7
          go_wp2_with fail
          go_loopw [75, 13] (fun v u wr => ∃ i : Nat, v = .int .i64 (i : Int) ∧ u = .int .i64 ((upto p i).length : Int) ∧ Hid (i ≤ n ∧ Below W8.heap.size W8 wr)) (fun v _ _ => n - (intOf v).toNat)
          case atStart => exact ⟨0, rfl, by simp [upto], Lib.hid ⟨Nat.zero_le _, Below.refl _ _⟩⟩
          case round =>
            obtain ⟨i, rfl, rfl, HI⟩ := hrel
            have hs := H8.out.2.2.2.only (Only.of_below HI.out.2) (fun e => by have := lt_blk H8.out.2.2.2; omega)
            by_cases hi : i < n
            · have pp1 : ((i : Int) < (n : Int)) = True := eq_true (by omega)
              have i0 : 0 ≤ (i : Int) := by omega
              have i1 : (i : Int) < (n : Int) := by omega
              have hc2 := hs.cell i (by rw [marks_len]; exact hi)
              rw [marks_get _ hi] at hc2
              by_cases hm : i ∈ p
              · rw [decide_eq_true hm] at hc2
                have hgl := H8.out.1.later HI.out.2
                obtain ⟨v, l, hv, hl, hr⟩ := hgl.mat.get (i := i) (by rw [HF.out.1]; exact hi)
                obtain ⟨A3, c3, rfl, _, _, _⟩ := rowAt_slice hr
                simp only [List.length_map] at hv hr
                have hcv := hgl.mat.cell i
                rw [hv] at hcv
                have hlD : b.getD i [] = l := by rw [List.getD_eq_getElem?_getD, hl]; rfl
                have hio : i ∈ o := (HAP.out.mem i).2 hm
                obtain ⟨xi, hxl, hxe⟩ := List.getElem_of_mem hio
                have hxi : o[xi]? = some i := by rw [List.getElem?_eq_getElem hxl, hxe]
                have hll := (rowAt_cells hr).2.2
                have HN2 := Lib.hid (show (upto p (i + 1)).length = (upto p i).length + 1 by rw [upto_succ, if_pos hm, List.length_append]; rfl)
                have hup : (upto p i).length ≤ 1048576 := by have := upto_le p (i := i) (n := n) (by omega); have := HRP.out.len; have := HRP.out.le; omega
                generalize (upto p i).length = uu at *
                have HL := Lib.hid (And.intro hr (And.intro hlD (And.intro hio (And.intro hxi hxl))))
                clear hs hgl hv hl hr hlD hio hxi hxl hxe hm
                unfold maxLen at hll
                go_wp2_with fail
                clear hc2 hcv
                obtain ⟨wo, rfl⟩ : ∃ wo : World, wo = wr := ⟨_, rfl⟩
                go_loopw [89] (fun v wr2 => ∃ t : Nat, v = .int .i64 (t : Int) ∧ Hid (t ≤ l.length ∧ Below wo.heap.size wo wr2)) (fun v _ => l.length - (intOf v).toNat)
                case atStart => exact ⟨0, rfl, Lib.hid ⟨Nat.zero_le _, Below.refl _ _⟩⟩
                case round =>
                  obtain ⟨t, rfl, HT⟩ := hrel
                  have hr := HL.out.1.only (Only.of_below HT.out.2) (fun g hg e => by have := (HL.out.1.lt hg).1; omega)
                  have hb8 := below_two HI.out.2 HT.out.2
                  by_cases ht : t < l.length
                  · obtain ⟨k, hk⟩ : ∃ k, l[t]? = some k := ⟨_, List.getElem?_eq_getElem ht⟩
                    obtain ⟨g0, o0, rfl⟩ : ∃ g o, A3 = some ⟨g, o, none⟩ := by
                      rcases hr with ⟨h1, h2⟩ | ⟨g, o, cap, cur, h1, _⟩
                      · have : l = [] := by simpa using h2
                        rw [this] at ht; simp at ht
                      · injection h1 with h1; exact ⟨g, o, h1⟩
                    have hc := hr.cell t (iv k) (by rw [List.getElem?_map, hk]; rfl)
                    unfold iv at hc
                    have hkl : k ∈ b.getD i [] := by rw [HL.out.2.1]; exact List.mem_of_getElem? hk
                    have hko := HAP.out.closed i HL.out.2.2.1 k hkl
                    obtain ⟨yi, hyl, hye⟩ := List.getElem_of_mem hko
                    have hyi : o[yi]? = some k := by rw [List.getElem?_eq_getElem hyl, hye]
                    have hbe := HAP.out.before xi yi i k HL.out.2.2.2.1 hyi hkl
                    have hat := H8.out.2.2.1.only (Only.of_below hb8) (fun e => by have := H8.out.2.2.1.map.lt; omega)
                    have lk1 := hat.look hyl hyi
                    have lk2 := hat.look HL.out.2.2.2.2 HL.out.2.2.2.1
                    have pp2 : ((t : Int) < (l.length : Int)) = True := eq_true (by omega)
                    have t0 : 0 ≤ (t : Int) := by omega
                    have t1 : (t : Int) < (l.length : Int) := by omega
                    have hle : ¬ ((yi : Int) ≤ (xi : Int)) := by omega
                    clear hr hb8 hk hkl hko hyl hye hyi hat
                    go_wp2_with fail
                    go_roundw
                    case rel => exact ⟨t + 1, by go_num, Lib.hid ⟨by omega, HT.out.2⟩⟩
                    case measure => simp [intOf]; omega
                  · obtain rfl : t = l.length := by have := HT.out.1; omega
                    have pp2 : ((l.length : Int) < (l.length : Int)) = False := eq_false (by omega)
                    clear hr
                    have HB8 := Lib.hid hb8
                    clear hb8
                    go_wp2_with fail
                    go_roundw
                    case rel => exact ⟨i + 1, by go_num, by rw [HN2.out]; go_num, Lib.hid ⟨by omega, HB8.out⟩⟩
                    case measure => simp [intOf]; omega
              · rw [decide_eq_false hm] at hc2
                have HN2 := Lib.hid (show (upto p (i + 1)).length = (upto p i).length by rw [upto_succ, if_neg hm])
                clear hs hm
                go_wp2_with fail
                go_roundw
                case rel => exact ⟨i + 1, by go_num, by rw [HN2.out], Lib.hid ⟨by omega, HI.out.2⟩⟩
                case measure => simp [intOf]; omega
            · obtain rfl : i = n := by have := HI.out.1; omega
              have pp1 : ((i : Int) < (i : Int)) = False := eq_false (by omega)
              have hr := H8.out.2.1.only (Only.of_below HI.out.2) (fun g hg e => by have := (H8.out.2.1.lt hg).1; omega)
              have hat := H8.out.2.2.1.only (Only.of_below HI.out.2) (fun e => by have := H8.out.2.2.1.map.lt; omega)
              have hup : (upto p i).length = o.length := by rw [HRP.out.len, HAP.out.len]
              rw [hup]
              have hsz := hat.size 3
              have hh := HAP.out.head
              obtain ⟨g0, o0, rfl⟩ : ∃ g o, A2 = some ⟨g, o, none⟩ := by
                rcases hr with ⟨h1, h2⟩ | ⟨g, o, cap, cur, h1, _⟩
                · have : o = [] := by simpa using h2
                  rw [this] at hh; simp at hh
                · injection h1 with h1; exact ⟨g, o, h1⟩
              have hc : wr.cell? ⟨g0, o0, none⟩ = some (.int .i64 0) := hr.cell 0 (iv 0) (by rw [List.getElem?_map, hh]; rfl)
              have hol0 : 0 < o.length := (List.getElem?_eq_some_iff.1 hh).1
              have hol1 : (0 : Int) < (o.length : Int) := by omega
              have hbel := below_two H8.out.1.below HI.out.2
              have HBL := Lib.hid hbel
              clear hr hat hup hs hh hbel
              go_wp2_with fail
              go_ret
              exact ⟨rfl, HBL.out⟩
theorem ahead_calls (N : Nat) (A : Option Addr) (c : Nat) (es : List (Nat × Nat)) (W : World) (hN : N ≤ 255) (hA : Edges W A es) (hc : es.length ≤ c) :
    Calls Try.prog 8 #[.agg #[.int .u8 N, .slice A es.length c]] W fun e W' => e = .returned (.bool true) ∧ Below W.heap.size W W' := by
  by_cases hl : es.length ≤ 40
  · exact ahead_near N A c es W hN hA hc hl
  · exact ahead_far N A c es W hl
end Go.Proofs.Ytffnkbicbfjnpaa
