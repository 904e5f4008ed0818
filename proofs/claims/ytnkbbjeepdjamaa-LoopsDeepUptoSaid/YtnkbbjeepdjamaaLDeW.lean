/- refinerylaw10.LoopsDeep: the walk. Conditions: the numbers are of their kinds. -/
import Derived.Test.YtnkbbjeepdjamaaLDeC
import Derived.Test.YtnkbbjeepdjamaaLAw
import Derived.Test.YtnkbbjeepdjamaaDOvW
namespace Go.Proofs.Ytnkbbjeepdjamaa
open Go.RowKit
def U8l (W : World) (A : Option Addr) (zs : List Int) : Prop := ∀ (i : Nat) (hi : i < zs.length), (0 ≤ zs[i] ∧ zs[i] ≤ 255) ∧ ∃ g o, A = some ⟨g, o, none⟩ ∧ W.cell? ⟨g, o + i, none⟩ = some (.int .u8 zs[i])
theorem U8l.later {W W' : World} {A : Option Addr} {zs : List Int} (h : U8l W A zs) (hb : Below W.heap.size W W') : U8l W' A zs := fun i hi => by
  obtain ⟨h1, g, o, e, c⟩ := h i hi
  exact ⟨h1, g, o, e, (hb.cell (p := ⟨g, o + i, none⟩) (World.block_lt_of_cell? W _ c)).trans c⟩
theorem inlK_congr {L : List (List Int)} {ys zs : List Int} {N : Nat} (h : ∀ u : Nat, u < N → ((u : Int) ∈ ys ↔ (u : Int) ∈ zs)) : inlK L ys N = inlK L zs N := by
  unfold inlK
  apply List.map_congr_left
  intro v hv
  simp only [h v (List.mem_range.1 hv)]
/-- The array of wanted counts. -/
def Want (w : World) (q : Nat) (l : List Int) : Prop := w.heap[q]? = some (.cells (l.map zv).toArray 75 (0, 0))
theorem Want.cell {w : World} {q : Nat} {l : List Int} (h : Want w q l) {i : Nat} {x : Int} (hi : l[i]? = some x) : w.cell? ⟨q, i, none⟩ = some (.int .i64 x) := by
  rw [cell_of_blk _ _ _ _ _ h]
  simp [hi, zv]
theorem Want.frozen {w : World} {q : Nat} {l : List Int} (h : Want w q l) (i : Nat) : w.frozen? ⟨q, i, none⟩ = false := by
  have h' : w.heap[q]? = some (.cells (l.map zv).toArray 75 (0, 0)) := h
  simp [World.frozen?, h']
theorem Want.set {w : World} {q : Nat} {l : List Int} (h : Want w q l) (i : Nat) (x : Int) : Want (w.setCell ⟨q, i, none⟩ (.int .i64 x)) q (l.set i x) := by
  have h' : w.heap[q]? = some (.cells (l.map zv).toArray 75 (0, 0)) := h
  have e : (l.set i x).map zv = (l.map zv).set i (zv x) := by rw [List.map_set]
  unfold Want
  rw [e, show ((l.map zv).set i (zv x)).toArray = (l.map zv).toArray.setIfInBounds i (zv x) by simp]
  simp [World.setCell, Array.getElem?_modify, h', zv]
/-- What the law holds: the loops' row, their sets, the array. -/
structure DS (X : World) (wq : Nat) (vo : Value) (L : List LEl) (xss : List (List Int)) (W : World) : Prop where
  below : Below X.heap.size X W
  row : OwnL W X.heap.size vo L
  len : L.length = xss.length
  sets : ∀ (i : Nat) (e : LEl), L[i]? = some e → ∃ xs, IsSetI W X.heap.size e.v xs ∧ xss[i]? = some xs ∧ e.k = xs.length ∧ xs.length ≤ 4
  wlt : X.heap.size ≤ wq ∧ ∃ l, Want W wq l
theorem DS.only {X W W' : World} {wq : Nat} {vo : Value} {L : List LEl} {xss : List (List Int)} (h : DS X wq vo L xss W) (ho : Only (fun g => W.heap.size ≤ g ∨ g = wq) W W') {l : List Int} (hw : Want W' wq l) : DS X wq vo L xss W' := by
  obtain ⟨hwl, l0, hw0⟩ := h.wlt
  refine ⟨h.below.trans (ho.below h.below.size (fun k hk e => by have := h.below.size; omega)), h.row.only ho (fun g hg e => ?_), h.len, fun i e hi => ?_, hwl, l, hw⟩
  · obtain ⟨_, h2, cur, h3⟩ := h.row.blk hg
    rcases e with e | e
    · omega
    · subst e
      have hw1 : W.heap[g]? = some (.cells (l0.map zv).toArray 75 (0, 0)) := hw0
      rw [h3] at hw1
      exact absurd hw1 (by simp)
  · obtain ⟨xs, h1, h2⟩ := h.sets i e hi
    refine ⟨xs, h1.only ho (fun g hg e => ?_), h2⟩
    rcases e with e | e
    · have := (isset_lt h1 hg).2; omega
    · subst e
      exact isset_ne h1 hw0 (by decide) hg
theorem DS.later {X W W' : World} {wq : Nat} {vo : Value} {L : List LEl} {xss : List (List Int)} (h : DS X wq vo L xss W) (hb : Below W.heap.size W W') : DS X wq vo L xss W' := by
  obtain ⟨hwl, l0, hw0⟩ := h.wlt
  exact h.only ((Only.of_below hb).mono (fun k hk e => .inl e)) ((hb.block wq (lt_blk hw0)).trans hw0 : Want W' wq l0)
theorem DS.ld {X W : World} {wq : Nat} {A : Option Addr} {m c : Nat} {L : List LEl} {xss : List (List Int)} (h : DS X wq (.slice A m c) L xss W) : m = L.length ∧ LD W X.heap.size A L xss := by
  obtain ⟨A', c', e, _⟩ := h.row.slice
  injection e with e1 e2 e3
  subst e1 e2 e3
  refine ⟨rfl, h.len, fun i e hi => ?_⟩
  obtain ⟨xs, h1, h2, h3, h4⟩ := h.sets i e hi
  obtain ⟨g, c2, e2, hr, _, _⟩ := h.row.row (fun e => by rw [e] at hi; simp at hi) (fun e he => by
    obtain ⟨j, hj⟩ := List.getElem?_of_mem he
    obtain ⟨ys, _, _, k3, k4⟩ := h.sets j e hj
    omega)
  injection e2 with e2
  obtain ⟨d0, d1⟩ := hr.at_ i e hi
  rw [Nat.mul_comm] at d0 d1
  exact ⟨g, xs, e2, d0, d1, h1, h2, h3, by omega⟩
theorem DS.nw {X W : World} {wq : Nat} {vo : Value} {L : List LEl} {xss : List (List Int)} (h : DS X wq vo L xss W) : vo.ownBlock ≠ some wq := fun e' => by
  obtain ⟨_, l0, hw0⟩ := h.wlt
  obtain ⟨_, _, cur, h3⟩ := h.row.blk e'
  have hw1 : W.heap[wq]? = some (.cells (l0.map zv).toArray 75 (0, 0)) := hw0
  rw [h3] at hw1
  exact absurd hw1 (by simp)
/-- One loop more. -/
theorem DS.push {X W W' : World} {wq : Nat} {vo vo' : Value} {L : List LEl} {xss : List (List Int)} (h : DS X wq vo L xss W) {e : LEl} {xs : List Int} (hs : IsSetI W X.heap.size e.v xs) (hk : e.k = xs.length) (hx : xs.length ≤ 4) (hr : OwnL W' X.heap.size vo' (L ++ [e])) (ho : Only (fun k => vo.ownBlock = some k) W W') : DS X wq vo' (L ++ [e]) (xss ++ [xs]) W' := by
  obtain ⟨hwl, l0, hw0⟩ := h.wlt
  have hsk : ∀ {u : LEl} {ys : List Int}, IsSetI W X.heap.size u.v ys → IsSetI W' X.heap.size u.v ys := fun h1 => h1.only ho (fun k hk e' => h.row.ne_set h1 hk e')
  have hwn := h.nw
  refine ⟨h.below.trans (ho.below h.below.size (fun k hk e' => by have := (h.row.blk e').1; omega)), hr, by simp [h.len], fun i u hi => ?_, hwl, l0, (ho.block wq (lt_blk hw0) hwn).trans hw0⟩
  rcases Nat.lt_or_ge i L.length with hl | hl
  · rw [List.getElem?_append_left hl] at hi
    obtain ⟨ys, h1, h2, h3⟩ := h.sets i u hi
    exact ⟨ys, hsk h1, by rw [List.getElem?_append_left (by rw [← h.len]; exact hl)]; exact h2, h3⟩
  · have hil := (List.getElem?_eq_some_iff.1 hi).1
    simp at hil
    obtain rfl : i = L.length := by omega
    simp at hi
    subst hi
    exact ⟨xs, hsk hs, by rw [h.len]; simp, hk, hx⟩
set_option maxRecDepth 100000 in
set_option maxHeartbeats 8000000 in
theorem lde_near (A4 : Option Addr) (c4 : Nat) (zs : List Int) (x : Int) (N : Nat) (A : Option Addr) (c : Nat) (es : List (Nat × Nat)) (W : World) (hx : -128 ≤ x ∧ x ≤ 127) (hl : es.length ≤ 40) (hz : zs.length ≤ 10) (hU : U8l W A4 zs) :
    Calls Try.prog 15 #[.agg #[.int .u8 N, .slice A es.length c], .slice A4 zs.length c4, .int .i8 x] W fun e W' => e = .returned (.bool true) ∧ Below W.heap.size W W' := by
  have HU := Lib.hid hU
  have pz : ((10 : Int) < (zs.length : Int)) = False := eq_false (by omega)
  clear hU
  go_enter Try.func15, Try.ntmps15
  go_wp2_with fail
  generalize hX : World.alloc W _ = X
  obtain ⟨hx, hbx, hz⟩ := boxed hX rfl
  have HX := Lib.hid (And.intro hx (And.intro hbx hz))
  clear hX hx hbx hz
  refine (awake10 X).mono ?_
  rintro e W1 ⟨rfl, hb⟩
  have H1 := Lib.hid (And.intro ((hb.block _ (lt_blk HX.out.1)).trans HX.out.1) (below_two HX.out.2.1 hb))
  clear hb HX
  have x0 := cell_of_blk _ _ _ _ _ H1.out.1 0
  have x1 := cell_of_blk _ _ _ _ _ H1.out.1 1
  simp at x0 x1
  go_wp2_with fail
  clear x0 x1
  refine (light_calls7 N A es.length c W1).mono ?_
  rintro e W2 ⟨rfl, hb⟩
  have H2 := Lib.hid (below_two H1.out.2 hb)
  rw [decide_eq_true hl]
  clear hb H1
  go_upto_region 7 with (fail)
  generalize hX : World.alloc W2 _ = X
  obtain ⟨hw, hbx, hzz⟩ := boxed hX rfl
  obtain ⟨wq, hq⟩ : ∃ k, W2.heap.size = k := ⟨_, rfl⟩
  have hw0 : Want X wq (inlK [] [] 20) := by rw [← hq]; exact hw
  have hds : DS W2 wq (.slice none 0 0) [] [] X := ⟨hbx, OwnL.nil _ _, rfl, fun i e hi => by simp at hi, by omega, _, hw0⟩
  have HX := Lib.hid (And.intro hw0 hds)
  rw [hq]
  clear hX hw hbx hzz hq hw0 hds
  go_wp2_with fail
  go_loopw [27, 7] (fun v vo wr => ∃ (i : Nat) (Ao : Option Addr) (co : Nat), v = .int .i64 (i : Int) ∧ vo = .slice Ao i co ∧ Hid (i ≤ zs.length ∧ ∃ L xss, L.length = i ∧ DS W2 wq (.slice Ao i co) L xss wr ∧ Want wr wq (inlK xss [] 20))) (fun v _ _ => zs.length - (intOf v).toNat)
  case atStart => exact ⟨0, none, 0, rfl, rfl, Lib.hid ⟨Nat.zero_le _, [], [], rfl, HX.out.2, HX.out.1⟩⟩
  case round =>
    obtain ⟨wo, rfl⟩ : ∃ x : World, x = wr := ⟨_, rfl⟩
    obtain ⟨i, Ao, co, rfl, rfl, HI⟩ := hrel
    obtain ⟨hi0, L, xss, hLi, hds, hwa⟩ := HI.out
    clear HI
    by_cases hi : i < zs.length
    · have pp1 : ((i : Int) < (zs.length : Int)) = True := eq_true (by omega)
      have i0 : 0 ≤ (i : Int) := by omega
      have i1 : (i : Int) < (zs.length : Int) := by omega
      obtain ⟨⟨z0, z1⟩, g4, o4, rfl, c4⟩ := (HU.out.later (below_two H2.out hds.below)) i hi
      obtain ⟨zn, hzn⟩ := Int.eq_ofNat_of_zero_le z0
      rw [hzn] at c4 z1
      obtain ⟨h, hh⟩ : ∃ h, zn % 20 = h := ⟨_, rfl⟩
      have eh : (zn : Int) % 20 = (h : Int) := by omega
      have hlt20 : h < 20 := by omega
      have HD := Lib.hid (And.intro hds hwa)
      have HLI := Lib.hid hLi
      have HEH := Lib.hid (And.intro hh eh)
      clear hds hwa hzn z0 hh eh
      go_wp2_with fail
      rw [HEH.out.2]
      generalize hX : World.alloc wo _ = X3
      obtain ⟨hx3, hbx, hz3⟩ := boxed hX rfl
      obtain ⟨b3, hb3⟩ : ∃ k, wo.heap.size = k := ⟨_, rfl⟩
      rw [hb3] at hx3 ⊢
      have hof := ofI_some b3 0 4 4 [(h : Int), (i : Int), -1, 30] X3 rfl (by omega) (fun k y hy => by
        rw [cell_of_blk _ _ _ _ _ hx3, Nat.zero_add]
        match k, hy with
        | 0, hy => simpa using hy
        | 1, hy => simpa using hy
        | 2, hy => simpa using hy
        | 3, hy => simpa using hy
        | k + 4, hy => simp at hy) (by omega)
      have HOF := Lib.hid hof
      have H3 := Lib.hid (And.intro (HD.out.1.later hbx) ((hbx.block wq (lt_blk HD.out.2)).trans HD.out.2 : Want X3 wq (inlK xss [] 20)))
      clear hX hx3 hbx hz3 hb3 hof HD c4
      obtain ⟨xs, hxs⟩ : ∃ xs, ofLI [(h : Int), (i : Int), -1, 30] = xs := ⟨_, rfl⟩
      have hx4 : xs.length ≤ 4 := by rw [← hxs]; exact ofLI_len _
      rw [hxs] at HOF
      clear hxs
      refine HOF.out.mono ?_
      rintro e W5 ⟨v5, rfl, hs5, hb5⟩
      have hs5 : IsSetI W5 W2.heap.size v5 xs := ⟨own_base hs5.own H3.out.1.below.size, hs5.srt⟩
      obtain ⟨A5, c5, rfl, _, _⟩ := SI.isset_cellsAt hs5
      have H5 := Lib.hid (And.intro (H3.out.1.later hb5) (And.intro ((hb5.block wq (lt_blk H3.out.2)).trans H3.out.2 : Want W5 wq (inlK xss [] 20)) hs5))
      clear hs5 hb5 H3 HOF
      go_upto_region 11 with (fail)
      generalize hX : World.alloc W5 _ = X6
      obtain ⟨hx6, hbx, hz6⟩ := boxed hX rfl
      obtain ⟨P, hP⟩ : ∃ k, W5.heap.size = k := ⟨_, rfl⟩
      rw [hP] at hx6 ⊢
      have hds6 := H5.out.1.later hbx
      have hw6 : Want X6 wq (inlK xss [] 20) := (hbx.block wq (lt_blk H5.out.2.1)).trans H5.out.2.1
      have hs6 : IsSetI X6 W2.heap.size (.slice A5 xs.length c5) xs := H5.out.2.2.only (Only.of_below hbx) (fun g hg e => by have := (isset_lt H5.out.2.2 hg).2; omega)
      have hwP : wq < P := by have := lt_blk H5.out.2.1; omega
      have hvP : ∀ g, (Value.slice Ao i co).ownBlock = some g → g < P := fun g hg => by have := (H5.out.1.row.blk hg).2.1; omega
      clear hX hbx hz6 H5 hP
      have hnb := heap_alloc_new' X6 (.cells #[.int .i64 (h : Int), .slice A5 xs.length c5] 72)
      have hbn : Below X6.heap.size X6 (X6.alloc (.cells #[.int .i64 (h : Int), .slice A5 xs.length c5] 72)) := (Below.refl _ _).alloc (Nat.le_refl _) _
      obtain ⟨v', w7, hrn, k1, k2⟩ := ownL_append (hds6.later hbn).row ⟨X6.heap.size, 0, none⟩ ⟨(h : Int), A5, xs.length, c5⟩ (cell_of_blk _ _ _ _ _ hnb 0) (cell_of_blk _ _ _ _ _ hnb 1) (Nat.le_trans hds6.below.size hbn.size) (by have := HEH.out; omega)
      have hpu := (hds6.later hbn).push (e := ⟨(h : Int), A5, xs.length, c5⟩) (hs6.only (Only.of_below hbn) (fun g hg e => by have := (isset_lt hs6 hg).2; omega)) rfl hx4 k1 k2
      obtain ⟨A7, c7, rfl, -⟩ := hpu.row.slice
      have hll : (L ++ [(⟨(h : Int), A5, xs.length, c5⟩ : LEl)]).length = i + 1 := by simp [HLI.out]
      rw [hll] at hrn hpu
      have hP7 : w7.heap[P]? = some (.cells #[.int .i64 (h : Int), .slice A5 xs.length c5] 72 (0, 0)) := (k2.block P (by have := lt_blk hx6; have := hbn.size; omega) (fun e => by have := hvP P e; omega)).trans ((hbn.block P (lt_blk hx6)).trans hx6)
      have hw7 : Want w7 wq (inlK xss [] 20) := (k2.block wq (by have := lt_blk hw6; have := hbn.size; omega) hds6.nw).trans ((hbn.block wq (lt_blk hw6)).trans hw6)
      have hs7 : IsSetI w7 W2.heap.size (.slice A5 xs.length c5) xs := by
        obtain ⟨ys, k3, k4, _⟩ := hpu.sets i ⟨(h : Int), A5, xs.length, c5⟩ (by rw [List.getElem?_append_right (by omega), HLI.out]; simp)
        rw [List.getElem?_append_right (by rw [← hds6.len, HLI.out]; exact Nat.le_refl _), ← hds6.len, HLI.out] at k4
        simp at k4
        rw [k4]
        rw [← k4] at k3
        rw [k4] at k3
        exact k3
      have HPU := Lib.hid (And.intro hpu (And.intro hP7 (And.intro hll (And.intro hw7 hs7))))
      have HRN := Lib.hid hrn
      have x0 := cell_of_blk _ _ _ _ _ hx6 0
      have x1 := cell_of_blk _ _ _ _ _ hx6 1
      simp at x0 x1
      clear hds6 hw6 hs6 hnb hbn hrn k1 k2 hpu hll hP7 hx6 hvP hw7 hs7 hs5
      go_wp2_with (first | (at_builtin; refine Lib.wpList_append_run _ rfl _ _ _ _ rfl _ _ rfl rfl _ _ HRN.out ?_) | fail)
      go_loopw [46] (fun v wr => ∃ j : Nat, v = .int .i64 (j : Int) ∧ Hid (j ≤ 20 ∧ Only (fun g => w7.heap.size ≤ g ∨ g = wq) w7 wr ∧ ∃ ys : List Int, (∀ u : Nat, (u : Int) ∈ ys ↔ u < j ∧ (u : Int) ∈ xs) ∧ Want wr wq (inlK xss ys 20))) (fun v _ => 20 - (intOf v).toNat)
      case atStart => exact ⟨0, rfl, Lib.hid ⟨Nat.zero_le _, Only.refl _ _, [], fun u => by simp, HPU.out.2.2.2.1⟩⟩
      case round =>
        obtain ⟨wp, rfl⟩ : ∃ x : World, x = wr := ⟨_, rfl⟩
        obtain ⟨j, rfl, HJ⟩ := hrel
        obtain ⟨hj0, hon, ys, hys, hwt⟩ := HJ.out
        clear HJ
        by_cases hj : j < 20
        · have pp2 : ((j : Int) < 20) = True := eq_true (by omega)
          have j0 : 0 ≤ (j : Int) := by omega
          have j1 : (j : Int) < 20 := by omega
          have hPp := (hon.block P (lt_blk HPU.out.2.1) (fun e => by have := lt_blk HPU.out.2.1; omega)).trans HPU.out.2.1
          have p1 := cell_of_blk _ _ _ _ _ hPp 1
          simp at p1
          have hsp : IsSetI wp W2.heap.size (.slice A5 xs.length c5) xs := HPU.out.2.2.2.2.only hon (fun g hg e => by
            rcases e with e | e
            · have := (isset_lt HPU.out.2.2.2.2 hg).2; omega
            · subst e
              obtain ⟨_, l0, hw0⟩ := HPU.out.1.wlt
              exact isset_ne HPU.out.2.2.2.2 hw0 (by decide) hg)
          have hha := hasI W2.heap.size (.slice A5 xs.length c5) xs (j : Int) wp hsp (by omega)
          have HHA := Lib.hid hha
          have HJ := Lib.hid (And.intro hon (And.intro hys hwt))
          have hle := inl_le xss j
          have hxl : xss.length = i := by
            have h1 := HPU.out.1.len
            have h2 := HPU.out.2.2.1
            simp at h1 h2
            omega
          clear hPp hsp hha hon hys hwt
          go_wp2_with fail
          clear p1
          refine HHA.out.mono ?_
          rintro e wz ⟨rfl, hbz⟩
          have hwz : Want wz wq (inlK xss ys 20) := (hbz.block wq (lt_blk HJ.out.2.2)).trans HJ.out.2.2
          have honz : Only (fun g => w7.heap.size ≤ g ∨ g = wq) w7 wz := HJ.out.1.trans (Only.of_below hbz) (fun g _ e => .inl (by have := HJ.out.1.size; omega))
          have HZ := Lib.hid (And.intro hwz honz)
          clear hbz honz
          by_cases hm : (j : Int) ∈ xs
          · rw [decide_eq_true hm]
            have hmy : (j : Int) ∉ ys := fun e => by have := ((HJ.out.2.1 j).1 e).1; omega
            have cz := hwz.cell (inlK_get (L := xss) (ys := ys) hj)
            rw [if_neg hmy, Nat.add_zero] at cz
            have fz := hwz.frozen j
            have hset := hwz.set j ((inl xss j : Nat) + 1)
            rw [inlK_put hj] at hset
            have hos := HZ.out.2.trans (Only.setCell wz ⟨wq, j, none⟩ (.int .i64 ((inl xss j : Int) + 1))) (fun g _ e => .inr e)
            have HS := Lib.hid (And.intro hset (And.intro hos (show ∀ u : Nat, (u : Int) ∈ ys ++ [(j : Int)] ↔ u < j + 1 ∧ (u : Int) ∈ xs from fun u => by
              rw [List.mem_append, HJ.out.2.1 u, List.mem_singleton]
              constructor
              · rintro (⟨a, b⟩ | e)
                · exact ⟨by omega, b⟩
                · rw [e]; exact ⟨by omega, hm⟩
              · rintro ⟨a, b⟩
                by_cases e : u = j
                · exact .inr (by rw [e])
                · exact .inl ⟨by omega, b⟩)))
            obtain ⟨iv, hiv⟩ : ∃ iv, inl xss j = iv := ⟨_, rfl⟩
            rw [hiv] at cz HS hle
            clear hwz hset hos hiv hmy
            go_wp2_with fail
            go_roundw
            case rel => exact ⟨j + 1, by go_num, Lib.hid ⟨by omega, HS.out.2.1, _, HS.out.2.2, HS.out.1⟩⟩
            case measure => simp [intOf]; omega
          · rw [decide_eq_false hm]
            have HS := Lib.hid (show ∀ u : Nat, (u : Int) ∈ ys ↔ u < j + 1 ∧ (u : Int) ∈ xs from fun u => by
              rw [HJ.out.2.1 u]
              constructor
              · rintro ⟨a, b⟩
                exact ⟨by omega, b⟩
              · rintro ⟨a, b⟩
                by_cases e : u = j
                · subst e; exact absurd b hm
                · exact ⟨by omega, b⟩)
            clear hwz
            go_wp2_with fail
            go_roundw
            case rel => exact ⟨j + 1, by go_num, Lib.hid ⟨by omega, HZ.out.2, ys, HS.out, HZ.out.1⟩⟩
            case measure => simp [intOf]; omega
        · obtain rfl : j = 20 := by omega
          have hwt2 : Want wp wq (inlK (xss ++ [xs]) [] 20) := by
            rw [← inlK_all, ← inlK_congr (ys := ys) (fun u hu => by rw [hys u]; exact ⟨fun e => e.2, fun e => ⟨hu, e⟩⟩)]
            exact hwt
          have HE := Lib.hid (And.intro (HPU.out.1.only hon hwt2) hwt2)
          clear hon hys hwt hwt2
          go_wp2_with fail
          go_roundw
          case rel => exact ⟨i + 1, A7, c7, by go_num, rfl, Lib.hid ⟨by omega, _, _, HPU.out.2.2.1, HE.out.1, HE.out.2⟩⟩
          case measure => simp [intOf]; omega
    · obtain rfl : i = zs.length := by omega
      have pp1 : ((zs.length : Int) < (zs.length : Int)) = False := eq_false (by omega)
      have HD := Lib.hid (And.intro hds (And.intro hwa hLi))
      clear hds hwa
      go_wp2_with fail
      obtain ⟨N', hN'⟩ : ∃ N' : Nat, max x 0 = (N' : Int) := ⟨(max x 0).toNat, by omega⟩
      have hN200 : N' ≤ 127 := by omega
      obtain ⟨hm1, hld⟩ := HD.out.1.ld
      have hdc := deep_calls x N' hN' (by omega) hld (c := co) (by omega)
      rw [← hm1] at hdc
      have HDC := Lib.hid hdc
      obtain ⟨M, hM⟩ : ∃ M : Nat, min (N' : Int) 20 = (M : Int) := ⟨(min (N' : Int) 20).toNat, by omega⟩
      have HNM := Lib.hid (show M ≤ N' ∧ M ≤ 20 by omega)
      clear hdc hm1 hld
      refine HDC.out.mono ?_
      rintro e w9 ⟨q9, rfl, hin, _, hb9⟩
      have H9 := Lib.hid (And.intro hin (And.intro ((hb9.block wq (lt_blk HD.out.2.1)).trans HD.out.2.1 : Want w9 wq (inlK xss [] 20)) (below_two H2.out (below_two HD.out.1.below hb9))))
      have hne : ((N' : Int) != (N' : Int)) = false := by simp
      clear hin hb9 HDC HD
      go_wp2_with fail
      clear hN' hne
      go_loopw [73] (fun v wr => ∃ j : Nat, v = .int .i64 (j : Int) ∧ Hid (j ≤ M ∧ Below w9.heap.size w9 wr)) (fun v _ => M - (intOf v).toNat)
      case atStart => exact ⟨0, rfl, Lib.hid ⟨Nat.zero_le _, Below.refl _ _⟩⟩
      case round =>
        obtain ⟨wp, rfl⟩ : ∃ x : World, x = wr := ⟨_, rfl⟩
        obtain ⟨j, rfl, HJ⟩ := hrel
        by_cases hj : j < M
        · have pp2 : ((j : Int) < (M : Int)) = True := eq_true (by omega)
          have j0 : 0 ≤ (j : Int) := by omega
          have j1 : (j : Int) < (N' : Int) := by have := HNM.out; omega
          have j2 : (j : Int) < 20 := by have := HNM.out; omega
          have cg := (H9.out.1.later HJ.out.2).cell (inlK_get (L := xss) (ys := []) (N := N') (v := j) (by omega))
          have hww : Want wp wq (inlK xss [] 20) := (HJ.out.2.block wq (lt_blk H9.out.2.1)).trans H9.out.2.1
          have cw := hww.cell (inlK_get (L := xss) (ys := []) (N := 20) (v := j) (by omega))
          simp at cg cw
          obtain ⟨iv, hiv⟩ : ∃ iv, inl xss j = iv := ⟨_, rfl⟩
          rw [hiv] at cg cw
          have hq : ((iv : Int) != (iv : Int)) = false := by simp
          clear hiv hww
          go_wp2_with fail
          go_quiet (fail)
          go_wp2_with fail
          go_roundw
          case rel => exact ⟨j + 1, by go_num, Lib.hid ⟨by omega, below_two HJ.out.2 (below_drewN' wp _)⟩⟩
          case measure => simp [intOf]; omega
        · obtain rfl : j = M := by have := HJ.out.1; omega
          have pp2 : ((j : Int) < (j : Int)) = False := eq_false (by omega)
          have HB := Lib.hid (below_two H9.out.2.2 HJ.out.2)
          go_wp2_with fail
          go_ret
          exact ⟨rfl, HB.out⟩
set_option maxHeartbeats 2000000 in
theorem lde_far (A4 : Option Addr) (c4 : Nat) (zs : List Int) (x : Int) (N : Nat) (A : Option Addr) (c : Nat) (es : List (Nat × Nat)) (W : World) (hl : ¬ es.length ≤ 40) :
    Calls Try.prog 15 #[.agg #[.int .u8 N, .slice A es.length c], .slice A4 zs.length c4, .int .i8 x] W fun e W' => e = .returned (.bool true) ∧ Below W.heap.size W W' := by
  go_enter Try.func15, Try.ntmps15
  go_wp2_with fail
  generalize hX : World.alloc W _ = X
  obtain ⟨hx, hbx, hzz⟩ := boxed hX rfl
  have HX := Lib.hid (And.intro hx (And.intro hbx hzz))
  clear hX hx hbx hzz
  refine (awake10 X).mono ?_
  rintro e W1 ⟨rfl, hb⟩
  have H1 := Lib.hid (And.intro ((hb.block _ (lt_blk HX.out.1)).trans HX.out.1) (below_two HX.out.2.1 hb))
  clear hb HX
  have x0 := cell_of_blk _ _ _ _ _ H1.out.1 0
  have x1 := cell_of_blk _ _ _ _ _ H1.out.1 1
  simp at x0 x1
  go_wp2_with fail
  clear x0 x1
  refine (light_calls7 N A es.length c W1).mono ?_
  rintro e W2 ⟨rfl, hb⟩
  have hbel := below_two H1.out.2 hb
  rw [decide_eq_false hl]
  clear hb H1
  go_wp2_with fail
  go_ret
  exact ⟨rfl, hbel⟩
set_option maxHeartbeats 2000000 in
theorem lde_far2 (A4 : Option Addr) (c4 : Nat) (zs : List Int) (x : Int) (N : Nat) (A : Option Addr) (c : Nat) (es : List (Nat × Nat)) (W : World) (hz : ¬ zs.length ≤ 10) (hl : es.length ≤ 40) :
    Calls Try.prog 15 #[.agg #[.int .u8 N, .slice A es.length c], .slice A4 zs.length c4, .int .i8 x] W fun e W' => e = .returned (.bool true) ∧ Below W.heap.size W W' := by
  go_enter Try.func15, Try.ntmps15
  go_wp2_with fail
  generalize hX : World.alloc W _ = X
  obtain ⟨hx, hbx, hzz⟩ := boxed hX rfl
  have HX := Lib.hid (And.intro hx (And.intro hbx hzz))
  clear hX hx hbx hzz
  refine (awake10 X).mono ?_
  rintro e W1 ⟨rfl, hb⟩
  have H1 := Lib.hid (And.intro ((hb.block _ (lt_blk HX.out.1)).trans HX.out.1) (below_two HX.out.2.1 hb))
  clear hb HX
  have x0 := cell_of_blk _ _ _ _ _ H1.out.1 0
  have x1 := cell_of_blk _ _ _ _ _ H1.out.1 1
  simp at x0 x1
  go_wp2_with fail
  clear x0 x1
  refine (light_calls7 N A es.length c W1).mono ?_
  rintro e W2 ⟨rfl, hb⟩
  have hbel := below_two H1.out.2 hb
  rw [decide_eq_true hl]
  have pz : ((10 : Int) < (zs.length : Int)) = True := eq_true (by omega)
  clear hb H1
  go_wp2_with fail
  go_ret
  exact ⟨rfl, hbel⟩
theorem lde_calls (A4 : Option Addr) (m c4 : Nat) (zs : List Int) (hm : zs.length = m) (x : Int) (hx : -128 ≤ x ∧ x ≤ 127) (N : Nat) (A : Option Addr) (c : Nat) (es : List (Nat × Nat)) (W : World) (hU : U8l W A4 zs) :
    Calls Try.prog 15 #[.agg #[.int .u8 N, .slice A es.length c], .slice A4 m c4, .int .i8 x] W fun e W' => e = .returned (.bool true) ∧ Below W.heap.size W W' := by
  subst hm
  by_cases hl : es.length ≤ 40
  · by_cases hz : zs.length ≤ 10
    · exact lde_near A4 c4 zs x N A c es W hx hl hz hU
    · exact lde_far2 A4 c4 zs x N A c es W hz hl
  · exact lde_far A4 c4 zs x N A c es W hl
theorem u8l_of {W : World} {A : Option Addr} {zs : List Int} (h1 : ∀ z ∈ zs, 0 ≤ z ∧ z ≤ 255) (h2 : ∀ (i : Nat) (hi : i < zs.length), ∃ g o, A = some ⟨g, o, none⟩ ∧ g < W.heap.size ∧ W.cell? ⟨g, o + i, none⟩ = some (.int .u8 zs[i])) : U8l W A zs := fun i hi => by
  obtain ⟨g, o, e, _, c⟩ := h2 i hi
  exact ⟨h1 _ (List.getElem_mem hi), g, o, e, c⟩
end Go.Proofs.Ytnkbbjeepdjamaa
