/- refinerylaw09.FrontBoth: the walk. Conditions: the numbers are of their kinds. -/
import Derived.Test.YtnkbbjeepdjamaaFrAllW
import Derived.Test.YtnkbbjeepdjamaaFrBoP
namespace Go.Proofs.Ytnkbbjeepdjamaa
open Go.RowKit
set_option maxHeartbeats 2000000 in
theorem fbo_far (A4 : Option Addr) (c4 : Nat) (zs : List Int) (A5 : Option Addr) (c5 : Nat) (ys : List Int) (N : Nat) (A : Option Addr) (c : Nat) (es : List (Nat × Nat)) (W : World) (hl : ¬ es.length ≤ 40) :
    Calls Try.prog 11 #[.agg #[.int .u8 N, .slice A es.length c], .slice A4 zs.length c4, .slice A5 ys.length c5] W fun e W' => e = .returned (.bool true) ∧ Below W.heap.size W W' := by
  go_enter Try.func11, Try.ntmps11
  go_wp2_with fail
  generalize hX : World.alloc W _ = X
  obtain ⟨hx, hbx, hz⟩ := boxed hX rfl
  have HX := Lib.hid (And.intro hx (And.intro hbx hz))
  clear hX hx hbx hz
  refine (awake9 X).mono ?_
  rintro e W1 ⟨rfl, hb⟩
  have H1 := Lib.hid (And.intro ((hb.block _ (lt_blk HX.out.1)).trans HX.out.1) (below_two HX.out.2.1 hb))
  clear hb HX
  have x0 := cell_of_blk _ _ _ _ _ H1.out.1 0
  have x1 := cell_of_blk _ _ _ _ _ H1.out.1 1
  simp at x0 x1
  go_wp2_with fail
  clear x0 x1
  refine (light_calls7 N A es.length c W1).mono ?_
  rintro e W2 ⟨rfl, hb⟩
  have hbel := below_two H1.out.2 hb
  rw [decide_eq_false hl]
  clear hb H1
  go_wp2_with fail
  go_ret
  exact ⟨rfl, hbel⟩
set_option maxRecDepth 100000 in
set_option maxHeartbeats 8000000 in
theorem fbo_near (A4 : Option Addr) (c4 : Nat) (zs : List Int) (A5 : Option Addr) (c5 : Nat) (ys : List Int) (N : Nat) (A : Option Addr) (c : Nat) (es : List (Nat × Nat)) (W : World) (hN : N ≤ 255) (hA : Edges W A es) (hc : es.length ≤ c) (hl : es.length ≤ 40) (hzl : zs.length ≤ 12) (hyl : ys.length ≤ 12) (hU : U8s W A4 zs) (hU5 : U8s W A5 ys) :
    Calls Try.prog 11 #[.agg #[.int .u8 N, .slice A es.length c], .slice A4 zs.length c4, .slice A5 ys.length c5] W fun e W' => e = .returned (.bool true) ∧ Below W.heap.size W W' := by
  have HA := Lib.hid (And.intro hA hc)
  clear hA hc
  obtain ⟨n, hn⟩ : ∃ n, 1 + N % 12 = n := ⟨_, rfl⟩
  have hn0 : 0 < n := by omega
  have hn12 : n ≤ 12 := by omega
  have HN := Lib.hid hn
  clear hn
  go_enter Try.func11, Try.ntmps11
  go_wp2_with fail
  generalize hX : World.alloc W _ = X
  obtain ⟨hx, hbx, hz⟩ := boxed hX rfl
  have HX := Lib.hid (And.intro hx (And.intro hbx hz))
  clear hX hx hbx hz
  refine (awake9 X).mono ?_
  rintro e W1 ⟨rfl, hb⟩
  have H1 := Lib.hid (And.intro ((hb.block _ (lt_blk HX.out.1)).trans HX.out.1) (below_two HX.out.2.1 hb))
  clear hb HX
  have x0 := cell_of_blk _ _ _ _ _ H1.out.1 0
  have x1 := cell_of_blk _ _ _ _ _ H1.out.1 1
  simp at x0 x1
  go_wp2_with fail
  clear x0 x1
  refine (light_calls7 N A es.length c W1).mono ?_
  rintro e W2 ⟨rfl, hb⟩
  have H2 := Lib.hid (And.intro ((hb.block _ (lt_blk H1.out.1)).trans H1.out.1) (below_two H1.out.2 hb))
  rw [decide_eq_true hl]
  have pz : ((12 : Int) < (zs.length : Int)) = False := eq_false (by omega)
  have py : ((12 : Int) < (ys.length : Int)) = False := eq_false (by omega)
  have HU := Lib.hid hU
  have HU5 := Lib.hid hU5
  clear hU hU5
  clear hb H1
  have x0 := cell_of_blk _ _ _ _ _ H2.out.1 0
  have x1 := cell_of_blk _ _ _ _ _ H2.out.1 1
  simp at x0 x1
  go_wp2_with fail
  clear x0 x1
  have hsc := small_calls N hN A c es W2 (HA.out.1.later H2.out.2) HA.out.2 (by omega)
  rw [HN.out] at hsc
  have HSC := Lib.hid hsc
  clear hsc
  refine HSC.out.mono ?_
  rintro e W3 ⟨gv, q, vs, S, rfl, hg, hm, hap, hb3⟩
  have hrw := graph_rows n hn0 es
  have htw := graph_twin n hn0 es
  generalize graphB n es = b at *
  generalize graphA n es = a at *
  obtain ⟨q1, p1, rfl⟩ := hg.form
  rw [hrw.lb] at hg ⊢
  have HG := Lib.hid (And.intro (hg.lower H2.out.2.size) (And.intro (hm.lower H2.out.2.size) (And.intro (below_two H2.out.2 hb3) (And.intro hrw htw))))
  clear hg hm hap hb3 hrw htw HSC H2
  go_wp2_with fail
  generalize hX : World.alloc W3 _ = X
  obtain ⟨hx, hbx, hz⟩ := boxed hX rfl
  have hlb := HG.out.2.2.2.1.lb
  have hfew : Few b := HG.out.2.2.2.1.fewOf (by omega)
  have hbl : ∀ (i : Nat) (l : List Nat), b[i]? = some l → l.length ≤ 1048575 := fun i l hi => by have := (HG.out.2.2.2.1.few i l hi).1; omega
  have hal : ∀ (i : Nat) (l : List Nat), a[i]? = some l → l.length ≤ 1048575 := fun i l hi => by have := (HG.out.2.2.2.1.fewA i l hi).1; omega
  obtain ⟨B, hB⟩ : ∃ k, W3.heap.size = k := ⟨_, rfl⟩
  have hS : GSr B q1 p1 n W.heap.size b a S W X := by
    rw [← hB]
    exact ⟨cell_of_blk _ _ _ _ _ hx 0, cell_of_blk _ _ _ _ _ hx 1, Lib.hid ⟨HG.out.1.later hbx, below_two HG.out.2.2.1 hbx⟩⟩
  have hSd := hS.later (X' := X.drew) ((Below.refl X.heap.size X).drew)
  have HF := Lib.hid (And.intro hlb (And.intro hfew (And.intro HG.out.2.2.2.2 (And.intro hbl (And.intro hal (And.intro (HG.out.2.1.later hbx) (And.intro (below_two HG.out.2.2.1 hbx).size (show n ≤ 1048575 by omega))))))))
  rw [hB]
  clear hX hx hbx hz hlb hfew hbl hal HG hB
  go_region_held3 (fun Y => Y.cell? ⟨B, 0, none⟩ = some (.slice (some ⟨q1, 0, none⟩) n n) ∧ Y.cell? ⟨B, 1, none⟩ = some (.slice (some ⟨p1, 0, none⟩) n n) ∧ Hid (Gr Y W.heap.size (.agg #[.slice (some ⟨q1, 0, none⟩) n n, .slice (some ⟨p1, 0, none⟩) n n]) b a S ∧ Below W.heap.size W Y))
    (first | exact hSd | exact (hSd.later hb1).later hb2 | exact hSd.later hb1)
    (first
      | (go_at_call 19; refine (of_calls hn0 HF.out.2.2.2.2.2.2.2 _ hSd.2.2.out.1 HF.out.1 HF.out.2.1 HF.out.2.2.1 HF.out.2.2.2.1 HF.out.2.2.2.2.1 HF.out.2.2.2.2.2.2.1).mono ?_; rintro e w1 ⟨qu, qb, qd, ts, up, deep, rfl, htr, hdt, hb1⟩)
      | (go_at_call 32; refine (front_calls (hSd.later hb1).2.2.out.1 HF.out.1 HF.out.2.1 HF.out.2.2.1 HF.out.2.2.2.2.2.2.2 HF.out.2.2.2.2.1 htr hdt).mono ?_; rintro e w2 ⟨Q, S', rfl, hbg, hb2⟩))
  rename_i hh
  have HE := Lib.hid (And.intro hbg (And.intro ((HF.out.2.2.2.2.2.1.later (Below.refl X.heap.size X).drew).later (below_two hb1 hb2)) hh.2.2.out.2))
  clear hh hbg hb1 hb2 htr hdt hS hSd
  obtain ⟨PP, SS, bb0, hbags⟩ : ∃ PP SS bb0, Bags w2 bb0 Q n n PP SS := ⟨_, _, _, HE.out.1⟩
  have HV := Lib.hid (And.intro hbags (below_two HE.out.2.2 (Below.refl _ _)))
  clear hbags HE
  go_upto_region 8 with (fail)
  generalize hX : World.alloc (World.alloc w2 _) _ = X
  obtain ⟨x1, x2, xz, xb⟩ := two_boxes hX
  obtain ⟨p, hp⟩ : ∃ k, w2.heap.size = k := ⟨_, rfl⟩
  rw [hp] at x1 x2
  have HX := Lib.hid (And.intro x1 (And.intro x2 (And.intro xz (And.intro xb hp))))
  rw [hp]
  clear hX x1 x2 xz xb hp
  have pn : ((n : Int) = 0) = False := eq_false (by omega)
  go_wp2_with fail
  go_loopw [47] (fun v wr => ∃ i : Nat, v = .int .i64 (i : Int) ∧ Hid (i ≤ zs.length ∧ ∃ st, SB X p i st wr)) (fun v _ => zs.length - (intOf v).toNat)
  case atStart => exact ⟨0, rfl, Lib.hid ⟨Nat.zero_le _, [], SB.start HX.out.1⟩⟩
  case round =>
    obtain ⟨wo, rfl⟩ : ∃ x : World, x = wr := ⟨_, rfl⟩
    obtain ⟨i, rfl, HI⟩ := hrel
    obtain ⟨hi0, st, hst⟩ := HI.out
    clear HI
    by_cases hi : i < zs.length
    · have pp1 : ((i : Int) < (zs.length : Int)) = True := eq_true (by omega)
      have i0 : 0 ≤ (i : Int) := by omega
      have i1 : (i : Int) < (zs.length : Int) := by omega
      have hbw : Below W.heap.size W wo := below_two HV.out.2 (HX.out.2.2.2.1.trans ((hst.bel (by have := HX.out.2.2.1; have := HX.out.2.2.2.2; omega)).mono (by have := HX.out.2.2.2.2; omega)))
      obtain ⟨hz, g, o, rfl, c8⟩ := (HU.out.later hbw) i hi
      obtain ⟨y, hy⟩ : ∃ y : Nat, zs[i] = (y : Int) := ⟨zs[i].toNat, by omega⟩
      rw [hy] at c8 hz
      have HST := Lib.hid hst
      clear hbw hy hst
      go_wp2_with fail
      try rw [show (y : Int) % (n : Int) = ((y % n : Nat) : Int) from (Int.natCast_emod y n).symm]
      refine (HST.out.add (y % n) (by omega)).mono ?_
      rintro e W8 ⟨⟨b8, rfl⟩, hs8⟩
      have HS8 := Lib.hid hs8
      clear hs8 c8
      go_wp2_with fail
      go_roundw
      case rel => exact ⟨i + 1, by go_num, Lib.hid ⟨by omega, _, HS8.out⟩⟩
      case measure => simp [intOf]; omega
    · obtain rfl : i = zs.length := by omega
      have pp1 : ((zs.length : Int) < (zs.length : Int)) = False := eq_false (by omega)
      have h2 : wo.heap[p + 1]? = some (.cells #[.slice none 0 0] 57 (0, 0)) := (hst.only.block (p + 1) (lt_blk HX.out.2.1) (by omega)).trans HX.out.2.1
      have hbo : Below w2.heap.size w2 wo := HX.out.2.2.2.1.trans ((hst.bel (by have := HX.out.2.2.1; have := HX.out.2.2.2.2; omega)).mono (by have := HX.out.2.2.2.2; omega))
      obtain ⟨Vo, rfl⟩ : ∃ x : World, x = wo := ⟨_, rfl⟩
      obtain ⟨st1, rfl⟩ : ∃ x, x = st := ⟨_, rfl⟩
      have HO := Lib.hid (And.intro hst (And.intro h2 hbo))
      clear hst h2 hbo pp1
      go_wp2_with fail
      go_loopw [60] (fun v wr => ∃ i : Nat, v = .int .i64 (i : Int) ∧ Hid (i ≤ ys.length ∧ ∃ st, SB Vo (p + 1) i st wr)) (fun v _ => ys.length - (intOf v).toNat)
      case atStart => exact ⟨0, rfl, Lib.hid ⟨Nat.zero_le _, [], SB.start HO.out.2.1⟩⟩
      case round =>
        obtain ⟨wo, rfl⟩ : ∃ x : World, x = wr := ⟨_, rfl⟩
        obtain ⟨i, rfl, HI⟩ := hrel
        obtain ⟨hi0, st, hst⟩ := HI.out
        clear HI
        by_cases hi : i < ys.length
        · have pp1 : ((i : Int) < (ys.length : Int)) = True := eq_true (by omega)
          have i0 : 0 ≤ (i : Int) := by omega
          have i1 : (i : Int) < (ys.length : Int) := by omega
          have hbw : Below W.heap.size W wo := below_two HV.out.2 (HO.out.2.2.trans ((hst.bel (by have := lt_blk HO.out.2.1; omega)).mono (by have := HX.out.2.2.2.2; omega)))
          obtain ⟨hz, g, o, rfl, c8⟩ := (HU5.out.later hbw) i hi
          obtain ⟨y, hy⟩ : ∃ y : Nat, ys[i] = (y : Int) := ⟨ys[i].toNat, by omega⟩
          rw [hy] at c8 hz
          have HST := Lib.hid hst
          clear hbw hy hst
          go_wp2_with fail
          try rw [show (y : Int) % (n : Int) = ((y % n : Nat) : Int) from (Int.natCast_emod y n).symm]
          refine (HST.out.add (y % n) (by omega)).mono ?_
          rintro e W8 ⟨⟨b8, rfl⟩, hs8⟩
          have HS8 := Lib.hid hs8
          clear hs8 c8
          go_wp2_with fail
          go_roundw
          case rel => exact ⟨i + 1, by go_num, Lib.hid ⟨by omega, _, HS8.out⟩⟩
          case measure => simp [intOf]; omega
        · obtain rfl : i = ys.length := by omega
          have pp1 : ((ys.length : Int) < (ys.length : Int)) = False := eq_false (by omega)
          obtain ⟨vx, hxb, hx⟩ := HO.out.1.other HO.out.2.1 (by omega) hst.only
          obtain ⟨vy, hyb, hy⟩ := hst.box
          obtain ⟨Wq, rfl⟩ : ∃ x : World, x = wo := ⟨_, rfl⟩
          obtain ⟨st2, rfl⟩ : ∃ x, x = st := ⟨_, rfl⟩
          have hbq : Below w2.heap.size w2 Wq := HO.out.2.2.trans ((hst.bel (by have := lt_blk HO.out.2.1; omega)).mono (by have := HX.out.2.2.2.2; omega))
          have cx := cell_of_blk _ _ _ _ _ hxb 0
          simp at cx
          have hcl := SI.clone _ vx st1 Wq hx (by have := HO.out.1.len; omega)
          have HCL := Lib.hid hcl
          have HQ := Lib.hid (And.intro hxb (And.intro hx (And.intro hyb (And.intro hy (And.intro HO.out.1.len (And.intro hst.len hbq))))))
          clear hxb hx hyb hy hst hbq hcl pp1
          go_wp2_with fail
          clear cx
          refine HCL.out.mono ?_
          rintro e W4 ⟨vz0, rfl, hsz, hb4⟩
          obtain ⟨A6, c6, rfl, -, -⟩ := SI.isset_cellsAt hsz
          have H4 := Lib.hid (And.intro hsz hb4)
          clear hsz hb4 HCL
          go_upto_region 19 with (fail)
          generalize hZ : World.alloc W4 _ = Z
          obtain ⟨hzb, hbz, hzz⟩ := boxed hZ rfl
          obtain ⟨pz, hpz⟩ : ∃ k, W4.heap.size = k := ⟨_, rfl⟩
          obtain ⟨vz0, hvz0⟩ : ∃ v, (Value.slice A6 st1.length c6) = v := ⟨_, rfl⟩
          rw [hpz, hvz0] at hzb
          rw [hvz0] at H4
          have hqz : Below Wq.heap.size Wq Z := below_two H4.out.2 hbz
          have hsz := H4.out.1.later' hbz
          have hyz := HQ.out.2.2.2.1.later' hqz
          have hyzb := (hqz.block _ (lt_blk HQ.out.2.2.1)).trans HQ.out.2.2.1
          have cy := cell_of_blk _ _ _ _ _ hyzb 0
          simp at cy
          have hpq : Wq.heap.size ≤ pz := by rw [← hpz]; exact H4.out.2.size
          have hj := SI.join Wq.heap.size pz 0 _ vz0 vy st1 st2 Z hsz hyz (by have := HQ.out.2.2.2.2.1; have := HQ.out.2.2.2.2.2.1; omega) #[vz0] 57 hzb rfl (isset_ne hsz hzb (by decide)) (hqz.size) (isset_ne hyz hzb (by decide)) (fun g hg hg' => by have := (isset_lt hsz hg).1; have := (isset_lt HQ.out.2.2.2.1 hg').2; omega)
          have HJ := Lib.hid hj
          have HZ := Lib.hid (And.intro hzb (And.intro hqz (And.intro hsz hpq)))
          rw [hpz]
          clear hvz0 hZ hzb hbz hzz hpz hqz hsz hyz hyzb hpq hj H4
          go_wp2_with fail
          clear cy
          refine HJ.out.mono ?_
          rintro e W5 ⟨vz, rfl, hs5, hput5, -⟩
          have hb5 : Below Wq.heap.size Wq W5 := HZ.out.2.1.trans (hput5.only.below HZ.out.2.1.size (fun k hk e => by
            rcases e with e | e
            · have := HZ.out.2.2.2; omega
            · have := (isset_lt HZ.out.2.2.1 e).1; omega))
          have hzb5 := hput5.blk _ _ _ HZ.out.1
          simp at hzb5
          have hx5 := HQ.out.2.1.later' hb5
          have hxb5 := (hb5.block _ (lt_blk HQ.out.1)).trans HQ.out.1
          have hy5 := HQ.out.2.2.2.1.later' hb5
          have hyb5 := (hb5.block _ (lt_blk HQ.out.2.2.1)).trans HQ.out.2.2.1
          have hbag5 : Bags W5 bb0 Q n n PP SS := (HV.out.1.later HQ.out.2.2.2.2.2.2).later (hb5.mono (by have := HQ.out.2.2.2.2.2.2.size; omega))
          have hlj : (SI.joinL st1 st2).length ≤ 24 := by have := (SI.joinL_len st1 st2).2; have := HQ.out.2.2.2.2.1; have := HQ.out.2.2.2.2.2.1; omega
          have HR5 := Lib.hid (And.intro hxb5 (And.intro hx5 (And.intro hyb5 (And.intro hy5 (And.intro hzb5 (And.intro hs5 (And.intro hbag5 (And.intro (below_two HV.out.2 (HQ.out.2.2.2.2.2.2.trans (hb5.mono HQ.out.2.2.2.2.2.2.size))) (And.intro hlj (And.intro HQ.out.2.2.2.2.1 HQ.out.2.2.2.2.2.1))))))))))
          clear hb5 hzb5 hx5 hxb5 hy5 hyb5 hbag5 hs5 hput5 hlj HJ HZ HQ HX HO
          go_upto_region 20 with (fail)
          refine wp_region_inv3 ndB (by kernel_rfl) (by kernel_rfl) (IB W5.heap.size W5 (.slice (some ⟨Q, 0, none⟩) n n) (.agg #[vx]) (.agg #[vy]) (.agg #[vz]) (AllOf PP n st1) (AllOf PP n st2) (AllOf PP n (SI.joinL st1 st2))) (by decide) (IB.start _) ?_ ?_
          · intro i hi L a w hf hd hc hI
            obtain ⟨u75, u76, u77, u78, u79, u80, u81, u82, u83, u17, u18, u19, rfl, hR⟩ := hI
            have hBw : W5.heap.size ≤ w.heap.size := hR.below.size
            have HR := Lib.hid (And.intro hR (And.intro hd (And.intro hc (And.intro hf hBw))))
            clear hR hd hc hf hBw
            have hi' : i = 0 ∨ i = 1 ∨ i = 2 ∨ i = 3 ∨ i = 4 ∨ i = 5 ∨ i = 6 ∨ i = 7 ∨ i = 8 ∨ i = 9 ∨ i = 10 ∨ i = 11 ∨ i = 12 ∨ i = 13 ∨ i = 14 := by
              have : i < 15 := hi
              omega
            clear hi
            rcases hi' with rfl | rfl | rfl | rfl | rfl | rfl | rfl | rfl | rfl | rfl | rfl | rfl | rfl | rfl | rfl
            · refine wpOp_step rfl (fun K hK => ?_)
              have HK := Lib.hid hK
              clear hK
              simp only [PutB, Act.put, List.setIfInBounds_toArray, List.set_cons_zero, List.set_cons_succ]
              go_simp
              refine HK.out _ _ ⟨_, _, _, _, _, _, _, _, _, _, _, _, ?_, HR.out.1.ld0⟩
              simp only [PutB, Act.put, List.setIfInBounds_toArray, List.set_cons_zero, List.set_cons_succ]
            · have hb := (HR.out.1.below.block _ (lt_blk HR5.out.1)).trans HR5.out.1
              have cc := cell_of_blk _ _ _ _ _ hb 0
              simp at cc
              clear hb
              refine wpOp_step rfl (fun K hK => ?_)
              have HK := Lib.hid hK
              clear hK
              simp only [PutB, Act.put, List.setIfInBounds_toArray, List.set_cons_zero, List.set_cons_succ]
              go_simp
              refine HK.out _ _ ⟨_, _, _, _, _, _, _, _, _, _, _, _, ?_, HR.out.1.ld1⟩
              simp only [PutB, Act.put, List.setIfInBounds_toArray, List.set_cons_zero, List.set_cons_succ]
            · have e1 := HR.out.1.r0 (HR.out.2.1 0 (by decide))
              have e2 := HR.out.1.r1 (HR.out.2.1 1 (by decide))
              subst e1 e2
              have hcl := frontAll_calls (w := w) (n := n) (fun _ => HR5.out.2.2.2.2.2.2.1.later HR.out.1.below) (by omega) (A := some ⟨Q, 0, none⟩) (fun _ => rfl) (HR5.out.2.1.later' HR.out.1.below) (by have := HR5.out.2.2.2.2.2.2.2.2.2.1; omega)
              have HCL := Lib.hid hcl
              clear hcl
              refine wpOp_step rfl (fun K hK => ?_)
              have HK := Lib.hid hK
              clear hK
              simp only [PutB, Act.put, List.setIfInBounds_toArray, List.set_cons_zero, List.set_cons_succ]
              go_simp
              refine HCL.out.mono ?_
              rintro e w8 ⟨v8, O8, rfl, hs8, ho8, hb8⟩
              go_simp
              refine HK.out _ _ ⟨_, _, _, _, _, _, _, _, _, _, _, _, ?_, HR.out.1.call2 HR.out.2.2.1 HR.out.2.2.2.1 HR.out.2.2.2.2 hs8 ho8 hb8⟩
              simp only [PutB, Act.put, List.setIfInBounds_toArray, List.set_cons_zero, List.set_cons_succ]
            · refine wpOp_step rfl (fun K hK => ?_)
              have HK := Lib.hid hK
              clear hK
              simp only [PutB, Act.put, List.setIfInBounds_toArray, List.set_cons_zero, List.set_cons_succ]
              go_simp
              refine HK.out _ _ ⟨_, _, _, _, _, _, _, _, _, _, _, _, ?_, HR.out.1.ld3⟩
              simp only [PutB, Act.put, List.setIfInBounds_toArray, List.set_cons_zero, List.set_cons_succ]
            · have hb := (HR.out.1.below.block _ (lt_blk HR5.out.2.2.1)).trans HR5.out.2.2.1
              have cc := cell_of_blk _ _ _ _ _ hb 0
              simp at cc
              clear hb
              refine wpOp_step rfl (fun K hK => ?_)
              have HK := Lib.hid hK
              clear hK
              simp only [PutB, Act.put, List.setIfInBounds_toArray, List.set_cons_zero, List.set_cons_succ]
              go_simp
              refine HK.out _ _ ⟨_, _, _, _, _, _, _, _, _, _, _, _, ?_, HR.out.1.ld4⟩
              simp only [PutB, Act.put, List.setIfInBounds_toArray, List.set_cons_zero, List.set_cons_succ]
            · have e1 := HR.out.1.r3 (HR.out.2.1 3 (by decide))
              have e2 := HR.out.1.r4 (HR.out.2.1 4 (by decide))
              subst e1 e2
              have hcl := frontAll_calls (w := w) (n := n) (fun _ => HR5.out.2.2.2.2.2.2.1.later HR.out.1.below) (by omega) (A := some ⟨Q, 0, none⟩) (fun _ => rfl) (HR5.out.2.2.2.1.later' HR.out.1.below) (by have := HR5.out.2.2.2.2.2.2.2.2.2.2; omega)
              have HCL := Lib.hid hcl
              clear hcl
              refine wpOp_step rfl (fun K hK => ?_)
              have HK := Lib.hid hK
              clear hK
              simp only [PutB, Act.put, List.setIfInBounds_toArray, List.set_cons_zero, List.set_cons_succ]
              go_simp
              refine HCL.out.mono ?_
              rintro e w8 ⟨v8, O8, rfl, hs8, ho8, hb8⟩
              go_simp
              refine HK.out _ _ ⟨_, _, _, _, _, _, _, _, _, _, _, _, ?_, HR.out.1.call5 HR.out.2.2.1 HR.out.2.2.2.1 HR.out.2.2.2.2 hs8 ho8 hb8⟩
              simp only [PutB, Act.put, List.setIfInBounds_toArray, List.set_cons_zero, List.set_cons_succ]
            · refine wpOp_step rfl (fun K hK => ?_)
              have HK := Lib.hid hK
              clear hK
              simp only [PutB, Act.put, List.setIfInBounds_toArray, List.set_cons_zero, List.set_cons_succ]
              go_simp
              refine HK.out _ _ ⟨_, _, _, _, _, _, _, _, _, _, _, _, ?_, HR.out.1.ld6⟩
              simp only [PutB, Act.put, List.setIfInBounds_toArray, List.set_cons_zero, List.set_cons_succ]
            · have hb := (HR.out.1.below.block _ (lt_blk HR5.out.2.2.2.2.1)).trans HR5.out.2.2.2.2.1
              have cc := cell_of_blk _ _ _ _ _ hb 0
              simp at cc
              clear hb
              refine wpOp_step rfl (fun K hK => ?_)
              have HK := Lib.hid hK
              clear hK
              simp only [PutB, Act.put, List.setIfInBounds_toArray, List.set_cons_zero, List.set_cons_succ]
              go_simp
              refine HK.out _ _ ⟨_, _, _, _, _, _, _, _, _, _, _, _, ?_, HR.out.1.ld7⟩
              simp only [PutB, Act.put, List.setIfInBounds_toArray, List.set_cons_zero, List.set_cons_succ]
            · have e1 := HR.out.1.r6 (HR.out.2.1 6 (by decide))
              have e2 := HR.out.1.r7 (HR.out.2.1 7 (by decide))
              subst e1 e2
              have hcl := frontAll_calls (w := w) (n := n) (fun _ => HR5.out.2.2.2.2.2.2.1.later HR.out.1.below) (by omega) (A := some ⟨Q, 0, none⟩) (fun _ => rfl) (HR5.out.2.2.2.2.2.1.later' HR.out.1.below) (by have := HR5.out.2.2.2.2.2.2.2.2.1; omega)
              have HCL := Lib.hid hcl
              clear hcl
              refine wpOp_step rfl (fun K hK => ?_)
              have HK := Lib.hid hK
              clear hK
              simp only [PutB, Act.put, List.setIfInBounds_toArray, List.set_cons_zero, List.set_cons_succ]
              go_simp
              refine HCL.out.mono ?_
              rintro e w8 ⟨v8, O8, rfl, hs8, ho8, hb8⟩
              go_simp
              refine HK.out _ _ ⟨_, _, _, _, _, _, _, _, _, _, _, _, ?_, HR.out.1.call8 HR.out.2.2.1 HR.out.2.2.2.1 HR.out.2.2.2.2 hs8 ho8 hb8⟩
              simp only [PutB, Act.put, List.setIfInBounds_toArray, List.set_cons_zero, List.set_cons_succ]
            · refine wpOp_step rfl (fun K hK => ?_)
              have HK := Lib.hid hK
              clear hK
              simp only [PutB, Act.put, List.setIfInBounds_toArray, List.set_cons_zero, List.set_cons_succ]
              go_simp
              refine HK.out _ _ ⟨_, _, _, _, _, _, _, _, _, _, _, _, ?_, HR.out.1.new9 HR.out.2.2.1 HR.out.2.2.2.1 HR.out.2.2.2.2⟩
              simp only [PutB, Act.put, List.setIfInBounds_toArray, List.set_cons_zero, List.set_cons_succ]
            · refine wpOp_step rfl (fun K hK => ?_)
              have HK := Lib.hid hK
              clear hK
              simp only [PutB, Act.put, List.setIfInBounds_toArray, List.set_cons_zero, List.set_cons_succ]
              go_simp
              refine HK.out _ _ ⟨_, _, _, _, _, _, _, _, _, _, _, _, ?_, HR.out.1.new10 HR.out.2.2.1 HR.out.2.2.2.1 HR.out.2.2.2.2⟩
              simp only [PutB, Act.put, List.setIfInBounds_toArray, List.set_cons_zero, List.set_cons_succ]
            · refine wpOp_step rfl (fun K hK => ?_)
              have HK := Lib.hid hK
              clear hK
              simp only [PutB, Act.put, List.setIfInBounds_toArray, List.set_cons_zero, List.set_cons_succ]
              go_simp
              refine HK.out _ _ ⟨_, _, _, _, _, _, _, _, _, _, _, _, ?_, HR.out.1.new11 HR.out.2.2.1 HR.out.2.2.2.1 HR.out.2.2.2.2⟩
              simp only [PutB, Act.put, List.setIfInBounds_toArray, List.set_cons_zero, List.set_cons_succ]
            · obtain ⟨l, x, rfl, hl, hBl, _⟩ := HR.out.1.b9 (HR.out.2.1 9 (by decide))
              obtain ⟨v8, O8, rfl, hs8, _⟩ := HR.out.1.c2 (HR.out.2.1 2 (by decide))
              obtain ⟨A8, c8, rfl, -, -⟩ := SI.isset_cellsAt hs8
              clear hs8
              have cc := cell_of_blk _ _ _ _ _ hl 0
              simp at cc
              have fc : w.frozen? ⟨l, 0, none⟩ = false := by simp [World.frozen?, hl]
              have HL := Lib.hid (And.intro hl hBl)
              clear hl hBl
              refine wpOp_step rfl (fun K hK => ?_)
              have HK := Lib.hid hK
              clear hK
              simp only [PutB, Act.put, List.setIfInBounds_toArray, List.set_cons_zero, List.set_cons_succ]
              go_simp
              refine HK.out _ _ ⟨_, _, _, _, _, _, _, _, _, _, _, _, ?_, HR.out.1.st12 HL.out.1 rfl rfl HL.out.2 (HR.out.2.1 9 (by decide))⟩
              simp only [PutB, Act.put, List.setIfInBounds_toArray, List.set_cons_zero, List.set_cons_succ]
            · obtain ⟨l, x, rfl, hl, hBl, _⟩ := HR.out.1.b10 (HR.out.2.1 10 (by decide))
              obtain ⟨v8, O8, rfl, hs8, _⟩ := HR.out.1.c5 (HR.out.2.1 5 (by decide))
              obtain ⟨A8, c8, rfl, -, -⟩ := SI.isset_cellsAt hs8
              clear hs8
              have cc := cell_of_blk _ _ _ _ _ hl 0
              simp at cc
              have fc : w.frozen? ⟨l, 0, none⟩ = false := by simp [World.frozen?, hl]
              have HL := Lib.hid (And.intro hl hBl)
              clear hl hBl
              refine wpOp_step rfl (fun K hK => ?_)
              have HK := Lib.hid hK
              clear hK
              simp only [PutB, Act.put, List.setIfInBounds_toArray, List.set_cons_zero, List.set_cons_succ]
              go_simp
              refine HK.out _ _ ⟨_, _, _, _, _, _, _, _, _, _, _, _, ?_, HR.out.1.st13 HL.out.1 rfl rfl HL.out.2 (HR.out.2.1 10 (by decide))⟩
              simp only [PutB, Act.put, List.setIfInBounds_toArray, List.set_cons_zero, List.set_cons_succ]
            · obtain ⟨l, x, rfl, hl, hBl, _⟩ := HR.out.1.b11 (HR.out.2.1 11 (by decide))
              obtain ⟨v8, O8, rfl, hs8, _⟩ := HR.out.1.c8 (HR.out.2.1 8 (by decide))
              obtain ⟨A8, c8, rfl, -, -⟩ := SI.isset_cellsAt hs8
              clear hs8
              have cc := cell_of_blk _ _ _ _ _ hl 0
              simp at cc
              have fc : w.frozen? ⟨l, 0, none⟩ = false := by simp [World.frozen?, hl]
              have HL := Lib.hid (And.intro hl hBl)
              clear hl hBl
              refine wpOp_step rfl (fun K hK => ?_)
              have HK := Lib.hid hK
              clear hK
              simp only [PutB, Act.put, List.setIfInBounds_toArray, List.set_cons_zero, List.set_cons_succ]
              go_simp
              refine HK.out _ _ ⟨_, _, _, _, _, _, _, _, _, _, _, _, ?_, HR.out.1.st14 HL.out.1 rfl rfl HL.out.2 (HR.out.2.1 11 (by decide))⟩
              simp only [PutB, Act.put, List.setIfInBounds_toArray, List.set_cons_zero, List.set_cons_succ]
          · intro L a w hL hI
            obtain ⟨u75, u76, u77, u78, u79, u80, u81, u82, u83, u17, u18, u19, rfl, hR⟩ := hI
            obtain ⟨lp, xp, rfl, hlp, hBp, hputp⟩ := hR.b9 (hL 9 (by decide))
            obtain ⟨lq, xq, rfl, hlq, hBq, hputq⟩ := hR.b10 (hL 10 (by decide))
            obtain ⟨lr, xr, rfl, hlr, hBr, hputr⟩ := hR.b11 (hL 11 (by decide))
            obtain rfl := hputp (hL 12 (by decide))
            obtain rfl := hputq (hL 13 (by decide))
            obtain rfl := hputr (hL 14 (by decide))
            obtain ⟨v, Op, e, hsp, hop⟩ := hR.c2 (hL 2 (by decide))
            obtain rfl : v = xp := by simpa using e.symm
            clear e
            obtain ⟨v', Oq, e, hsq, hoq⟩ := hR.c5 (hL 5 (by decide))
            obtain rfl : v' = xq := by simpa using e.symm
            clear e
            obtain ⟨v'', Or, e, hsr, hor⟩ := hR.c8 (hL 8 (by decide))
            obtain rfl : v'' = xr := by simpa using e.symm
            clear e
            have hpr : lp ≠ lr := fun e => hR.n2 (hL 9 (by decide)) (hL 11 (by decide)) (by rw [e])
            have s1 := fun g hg => hR.s1 (hL 2 (by decide)) (hL 5 (by decide)) v v' g rfl rfl hg
            have s2 := fun g hg => hR.s2 (hL 2 (by decide)) (hL 8 (by decide)) v v'' g rfl rfl hg
            have hbw := hR.below
            have lp1 := hop.len hsp.srt HV.out.1.few
            have lq1 := hoq.len hsq.srt HV.out.1.few
            have lr1 := hor.len hsr.srt HV.out.1.few
            have hj := SI.join W5.heap.size lp 0 W5.heap.size v v' Op Oq w hsp hsq (by omega) #[v] 57 hlp rfl (isset_ne hsp hlp (by decide)) hbw.size (isset_ne hsq hlp (by decide)) s1
            have HJ := Lib.hid hj
            have cq := cell_of_blk _ _ _ _ _ hlq 0
            simp at cq
            have HF6 := Lib.hid (And.intro hlp (And.intro hlr (And.intro hsp (And.intro hsr (And.intro hpr (And.intro s2 (And.intro hbw (And.intro hBp (And.intro hop (And.intro hoq hor))))))))))
            have HLN := Lib.hid (And.intro lp1 (And.intro lq1 lr1))
            clear hj hputp hputq hputr hR hL hlp hlq hlr hBp hBq hBr hsp hsq hsr hpr s1 s2 hbw lp1 lq1 lr1 hop hoq hor
            simp only [PutB, Act.put, List.setIfInBounds_toArray, List.set_cons_zero, List.set_cons_succ]
            go_wp2_with fail
            clear cq
            refine HJ.out.mono ?_
            rintro e W7 ⟨vp, rfl, hs7, hput7, -⟩
            have hlp7 := hput7.blk _ _ _ HF6.out.1
            simp at hlp7
            have hlr7 : W7.heap[lr]? = some (.cells #[v''] 57 (0, 0)) := (hput7.only.block lr (lt_blk HF6.out.2.1) (fun e => by
              rcases e with e | e
              · exact HF6.out.2.2.2.2.1 e.symm
              · exact isset_ne HF6.out.2.2.1 HF6.out.2.1 (by decide) e)).trans HF6.out.2.1
            have hsr7 : IsSetI W7 W5.heap.size v'' Or := HF6.out.2.2.2.1.only hput7.only (fun g hg e => by
              rcases e with e | e
              · subst e; exact isset_ne HF6.out.2.2.2.1 HF6.out.1 (by decide) hg
              · exact HF6.out.2.2.2.2.2.1 g e hg)
            have hb7 : Below W5.heap.size W5 W7 := HF6.out.2.2.2.2.2.2.1.trans (hput7.only.below HF6.out.2.2.2.2.2.2.1.size (fun k hk e => by
              rcases e with e | e
              · have := HF6.out.2.2.2.2.2.2.2.1; omega
              · have := (isset_lt HF6.out.2.2.1 e).1; omega))
            have hcl := frontAll_calls (w := W7) (n := n) (fun _ => HR5.out.2.2.2.2.2.2.1.later hb7) (by omega) (A := some ⟨Q, 0, none⟩) (fun _ => rfl) hsr7 (by have := HLN.out.2.2; omega)
            have HCL := Lib.hid hcl
            have cr := cell_of_blk _ _ _ _ _ hlr7 0
            simp at cr
            have HF7 := Lib.hid (And.intro hlp7 (And.intro hlr7 (And.intro hs7 (And.intro hsr7 hb7))))
            clear hcl hlp7 hlr7 hs7 hsr7 hb7 hput7 HJ
            go_wp2_with fail
            clear cr
            refine HCL.out.mono ?_
            rintro e W8 ⟨va, Oa, rfl, hsa, hoa, hb8⟩
            obtain ⟨A7, c7, rfl, -, -⟩ := SI.isset_cellsAt hsa
            have la := AllOf.len hoa hsa.srt HV.out.1.few
            have HF8 := Lib.hid (And.intro hsa (And.intro hoa (And.intro hb8 la)))
            clear hsa hoa hb8 la HCL
            go_upto_region 23 with (fail)
            generalize hZ : World.alloc W8 _ = Z
            obtain ⟨hzb, hbz, hzz⟩ := boxed hZ rfl
            obtain ⟨pa, hpa⟩ : ∃ k, W8.heap.size = k := ⟨_, rfl⟩
            obtain ⟨va, hva⟩ : ∃ v, (Value.slice A7 Oa.length c7) = v := ⟨_, rfl⟩
            rw [hpa, hva] at hzb
            rw [hva] at HF8
            have hb7z : Below W7.heap.size W7 Z := below_two HF8.out.2.2.1 hbz
            have hsaz := HF8.out.1.later' hbz
            have hsrz := HF7.out.2.2.2.1.later' hb7z
            have hlrz := (hb7z.block _ (lt_blk HF7.out.2.1)).trans HF7.out.2.1
            have cr := cell_of_blk _ _ _ _ _ hlrz 0
            simp at cr
            have hpa7 : W7.heap.size ≤ pa := by rw [← hpa]; exact HF8.out.2.2.1.size
            have hj := SI.join W7.heap.size pa 0 _ va v'' Oa Or Z hsaz hsrz (by have := HLN.out.2.2; have := HF8.out.2.2.2; omega) #[va] 57 hzb rfl (isset_ne hsaz hzb (by decide)) hb7z.size (isset_ne hsrz hzb (by decide)) (fun g hg hg' => by have := (isset_lt hsaz hg).1; have := (isset_lt HF7.out.2.2.2.1 hg').2; omega)
            have HJ := Lib.hid hj
            have HZ := Lib.hid (And.intro hzb (And.intro hb7z (And.intro hsaz hpa7)))
            rw [hpa]
            clear hva hZ hzb hbz hzz hpa hb7z hsaz hsrz hlrz hpa7 hj
            go_wp2_with fail
            clear cr
            refine HJ.out.mono ?_
            rintro e W9 ⟨vb, rfl, hs9, hput9, -⟩
            have hb9 : Below W7.heap.size W7 W9 := HZ.out.2.1.trans (hput9.only.below HZ.out.2.1.size (fun k hk e => by
              rcases e with e | e
              · have := HZ.out.2.2.2; omega
              · have := (isset_lt HZ.out.2.2.1 e).1; omega))
            have hpa9 := hput9.blk _ _ _ HZ.out.1
            simp at hpa9
            have hlp9 := (hb9.block _ (lt_blk HF7.out.1)).trans HF7.out.1
            have hlr9 := (hb9.block _ (lt_blk HF7.out.2.1)).trans HF7.out.2.1
            have hsp9 := HF7.out.2.2.1.later' hb9
            have hsr9 := HF7.out.2.2.2.1.later' hb9
            have hsame1 := SI.same _ _ vp v'' _ _ W9 hsp9 hsr9
            rw [decide_eq_true (both_eq HF6.out.2.2.2.2.2.2.2.2.1 HF6.out.2.2.2.2.2.2.2.2.2.1 HF6.out.2.2.2.2.2.2.2.2.2.2 hsp9.srt hsr9.srt)] at hsame1
            have HS1 := Lib.hid hsame1
            have c1 := cell_of_blk _ _ _ _ _ hlp9 0
            have c2 := cell_of_blk _ _ _ _ _ hlr9 0
            simp at c1 c2
            have HF9 := Lib.hid (And.intro hpa9 (And.intro hlr9 (And.intro hs9 (And.intro hsr9 (HF7.out.2.2.2.2.trans (hb9.mono HF7.out.2.2.2.2.size))))))
            clear hsame1 hb9 hpa9 hlp9 hlr9 hsp9 hsr9 hs9 hput9
            go_wp2_with fail
            clear c1 c2
            refine HS1.out.mono ?_
            rintro e W10 ⟨rfl, hb10⟩
            have hpa10 := (hb10.block _ (lt_blk HF9.out.1)).trans HF9.out.1
            have hlr10 := (hb10.block _ (lt_blk HF9.out.2.1)).trans HF9.out.2.1
            have hs10 := HF9.out.2.2.1.later' hb10
            have hsr10 := HF9.out.2.2.2.1.later' hb10
            have hsame2 := SI.same _ _ vb v'' _ _ W10 hs10 hsr10
            rw [decide_eq_true (again_eq HF6.out.2.2.2.2.2.2.2.2.2.2 HF8.out.2.1 hs10.srt hsr10.srt)] at hsame2
            have HS2 := Lib.hid hsame2
            have c1 := cell_of_blk _ _ _ _ _ hpa10 0
            have c2 := cell_of_blk _ _ _ _ _ hlr10 0
            simp at c1 c2
            have HB10 := Lib.hid (HF9.out.2.2.2.2.trans (hb10.mono HF9.out.2.2.2.2.size))
            clear hsame2 hpa10 hlr10 hs10 hsr10 hb10
            go_wp2_with fail
            clear c1 c2
            refine HS2.out.mono ?_
            rintro e W11 ⟨rfl, hb11⟩
            have HB11 := Lib.hid (below_two HR5.out.2.2.2.2.2.2.2.1 (HB10.out.trans (hb11.mono HB10.out.size)))
            clear hb11
            go_wp2_with fail
            go_ret
            exact ⟨rfl, HB11.out⟩
set_option maxHeartbeats 2000000 in
theorem fbo_far2 (A4 : Option Addr) (c4 : Nat) (zs : List Int) (A5 : Option Addr) (c5 : Nat) (ys : List Int) (hz : ¬ zs.length ≤ 12) (N : Nat) (A : Option Addr) (c : Nat) (es : List (Nat × Nat)) (W : World) (hl : es.length ≤ 40) :
    Calls Try.prog 11 #[.agg #[.int .u8 N, .slice A es.length c], .slice A4 zs.length c4, .slice A5 ys.length c5] W fun e W' => e = .returned (.bool true) ∧ Below W.heap.size W W' := by
  go_enter Try.func11, Try.ntmps11
  go_wp2_with fail
  generalize hX : World.alloc W _ = X
  obtain ⟨hx, hbx, hz⟩ := boxed hX rfl
  have HX := Lib.hid (And.intro hx (And.intro hbx hz))
  clear hX hx hbx hz
  refine (awake9 X).mono ?_
  rintro e W1 ⟨rfl, hb⟩
  have H1 := Lib.hid (And.intro ((hb.block _ (lt_blk HX.out.1)).trans HX.out.1) (below_two HX.out.2.1 hb))
  clear hb HX
  have x0 := cell_of_blk _ _ _ _ _ H1.out.1 0
  have x1 := cell_of_blk _ _ _ _ _ H1.out.1 1
  simp at x0 x1
  go_wp2_with fail
  clear x0 x1
  refine (light_calls7 N A es.length c W1).mono ?_
  rintro e W2 ⟨rfl, hb⟩
  have hbel := below_two H1.out.2 hb
  rw [decide_eq_true hl]
  have pz : ((12 : Int) < (zs.length : Int)) = True := eq_true (by omega)
  clear hb H1
  go_wp2_with fail
  go_ret
  exact ⟨rfl, hbel⟩
set_option maxHeartbeats 2000000 in
theorem fbo_far3 (A4 : Option Addr) (c4 : Nat) (zs : List Int) (A5 : Option Addr) (c5 : Nat) (ys : List Int) (hzl : zs.length ≤ 12) (hy : ¬ ys.length ≤ 12) (N : Nat) (A : Option Addr) (c : Nat) (es : List (Nat × Nat)) (W : World) (hl : es.length ≤ 40) :
    Calls Try.prog 11 #[.agg #[.int .u8 N, .slice A es.length c], .slice A4 zs.length c4, .slice A5 ys.length c5] W fun e W' => e = .returned (.bool true) ∧ Below W.heap.size W W' := by
  go_enter Try.func11, Try.ntmps11
  go_wp2_with fail
  generalize hX : World.alloc W _ = X
  obtain ⟨hx, hbx, hz⟩ := boxed hX rfl
  have HX := Lib.hid (And.intro hx (And.intro hbx hz))
  clear hX hx hbx hz
  refine (awake9 X).mono ?_
  rintro e W1 ⟨rfl, hb⟩
  have H1 := Lib.hid (And.intro ((hb.block _ (lt_blk HX.out.1)).trans HX.out.1) (below_two HX.out.2.1 hb))
  clear hb HX
  have x0 := cell_of_blk _ _ _ _ _ H1.out.1 0
  have x1 := cell_of_blk _ _ _ _ _ H1.out.1 1
  simp at x0 x1
  go_wp2_with fail
  clear x0 x1
  refine (light_calls7 N A es.length c W1).mono ?_
  rintro e W2 ⟨rfl, hb⟩
  have hbel := below_two H1.out.2 hb
  rw [decide_eq_true hl]
  have pz : ((12 : Int) < (zs.length : Int)) = False := eq_false (by omega)
  have py : ((12 : Int) < (ys.length : Int)) = True := eq_true (by omega)
  clear hb H1
  go_wp2_with fail
  go_ret
  exact ⟨rfl, hbel⟩
theorem fbo_calls (A4 : Option Addr) (m c4 : Nat) (zs : List Int) (hm : zs.length = m) (A5 : Option Addr) (m5 c5 : Nat) (ys : List Int) (hm5 : ys.length = m5) (N : Nat) (A : Option Addr) (c : Nat) (es : List (Nat × Nat)) (W : World) (hN : N ≤ 255) (hA : Edges W A es) (hc : es.length ≤ c) (hU : U8s W A4 zs) (hU5 : U8s W A5 ys) :
    Calls Try.prog 11 #[.agg #[.int .u8 N, .slice A es.length c], .slice A4 m c4, .slice A5 m5 c5] W fun e W' => e = .returned (.bool true) ∧ Below W.heap.size W W' := by
  subst hm hm5
  by_cases hl : es.length ≤ 40
  · by_cases hz : zs.length ≤ 12
    · by_cases hy : ys.length ≤ 12
      · exact fbo_near A4 c4 zs A5 c5 ys N A c es W hN hA hc hl hz hy hU hU5
      · exact fbo_far3 A4 c4 zs A5 c5 ys hz hy N A c es W hl
    · exact fbo_far2 A4 c4 zs A5 c5 ys hz N A c es W hl
  · exact fbo_far A4 c4 zs A5 c5 ys N A c es W hl
end Go.Proofs.Ytnkbbjeepdjamaa
