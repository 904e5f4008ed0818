/- refinerylaw09.FrontMeets: the walk. Conditions: the numbers are of their kinds. -/
import Derived.Test.YtnkbbjeepdjamaaFrMeA
import Derived.Test.YtnkbbjeepdjamaaFrAw
import Derived.Test.YtnkbbjeepdjamaaDOvW
import Derived.Test.YtnkbbjeepdjamaaFrAll
namespace Go.Proofs.Ytnkbbjeepdjamaa
open Go.RowKit
theorem Cl.more9 {P : Nat → Nat → Prop} {n v : Nat} {s s' : Int → Prop} (h : Cl P n s v) (hs : ∀ z, s z → s' z) : Cl P n s' v := by
  induction h with
  | base h1 h2 h3 => exact .base (hs _ h1) h2 h3
  | step _ h2 h3 ih => exact .step ih h2 h3
set_option maxHeartbeats 2000000 in
theorem fme_far (N1 N2 : Nat) (_hN1 : N1 ≤ 255) (_hN2 : N2 ≤ 255) (N : Nat) (A : Option Addr) (c : Nat) (es : List (Nat × Nat)) (W : World) (hl : ¬ es.length ≤ 40) :
    Calls Try.prog 9 #[.agg #[.int .u8 N, .slice A es.length c], .int .u8 (N1 : Int), .int .u8 (N2 : Int)] W fun e W' => e = .returned (.bool true) ∧ Below W.heap.size W W' := by
  go_enter Try.func9, Try.ntmps9
  go_wp2_with fail
  generalize hX : World.alloc W _ = X
  obtain ⟨hx, hbx, hz⟩ := boxed hX rfl
  have HX := Lib.hid (And.intro hx (And.intro hbx hz))
  clear hX hx hbx hz
  refine (awake9 X).mono ?_
  rintro e W1 ⟨rfl, hb⟩
  have H1 := Lib.hid (And.intro ((hb.block _ (lt_blk HX.out.1)).trans HX.out.1) (below_two HX.out.2.1 hb))
  clear hb HX
  have x0 := cell_of_blk _ _ _ _ _ H1.out.1 0
  have x1 := cell_of_blk _ _ _ _ _ H1.out.1 1
  simp at x0 x1
  go_wp2_with fail
  clear x0 x1
  refine (light_calls7 N A es.length c W1).mono ?_
  rintro e W2 ⟨rfl, hb⟩
  have hbel := below_two H1.out.2 hb
  rw [decide_eq_false hl]
  clear hb H1
  go_wp2_with fail
  go_ret
  exact ⟨rfl, hbel⟩
set_option maxRecDepth 100000 in
set_option maxHeartbeats 8000000 in
theorem fme_near (N1 N2 : Nat) (hN1 : N1 ≤ 255) (hN2 : N2 ≤ 255) (N : Nat) (A : Option Addr) (c : Nat) (es : List (Nat × Nat)) (W : World) (hN : N ≤ 255) (hA : Edges W A es) (hc : es.length ≤ c) (hl : es.length ≤ 40) :
    Calls Try.prog 9 #[.agg #[.int .u8 N, .slice A es.length c], .int .u8 (N1 : Int), .int .u8 (N2 : Int)] W fun e W' => e = .returned (.bool true) ∧ Below W.heap.size W W' := by
  have HA := Lib.hid (And.intro hA hc)
  clear hA hc
  obtain ⟨n, hn⟩ : ∃ n, 1 + N % 12 = n := ⟨_, rfl⟩
  have hn0 : 0 < n := by omega
  have hn12 : n ≤ 12 := by omega
  have HN := Lib.hid hn
  clear hn
  go_enter Try.func9, Try.ntmps9
  go_wp2_with fail
  generalize hX : World.alloc W _ = X
  obtain ⟨hx, hbx, hz⟩ := boxed hX rfl
  have HX := Lib.hid (And.intro hx (And.intro hbx hz))
  clear hX hx hbx hz
  refine (awake9 X).mono ?_
  rintro e W1 ⟨rfl, hb⟩
  have H1 := Lib.hid (And.intro ((hb.block _ (lt_blk HX.out.1)).trans HX.out.1) (below_two HX.out.2.1 hb))
  clear hb HX
  have x0 := cell_of_blk _ _ _ _ _ H1.out.1 0
  have x1 := cell_of_blk _ _ _ _ _ H1.out.1 1
  simp at x0 x1
  go_wp2_with fail
  clear x0 x1
  refine (light_calls7 N A es.length c W1).mono ?_
  rintro e W2 ⟨rfl, hb⟩
  have H2 := Lib.hid (And.intro ((hb.block _ (lt_blk H1.out.1)).trans H1.out.1) (below_two H1.out.2 hb))
  rw [decide_eq_true hl]
  clear hb H1
  have x0 := cell_of_blk _ _ _ _ _ H2.out.1 0
  have x1 := cell_of_blk _ _ _ _ _ H2.out.1 1
  simp at x0 x1
  go_wp2_with fail
  clear x0 x1
  have hsc := small_calls N hN A c es W2 (HA.out.1.later H2.out.2) HA.out.2 (by omega)
  rw [HN.out] at hsc
  have HSC := Lib.hid hsc
  clear hsc
  refine HSC.out.mono ?_
  rintro e W3 ⟨gv, q, vs, S, rfl, hg, hm, hap, hb3⟩
  have hrw := graph_rows n hn0 es
  have htw := graph_twin n hn0 es
  generalize graphB n es = b at *
  generalize graphA n es = a at *
  obtain ⟨q1, p1, rfl⟩ := hg.form
  rw [hrw.lb] at hg ⊢
  have HG := Lib.hid (And.intro (hg.lower H2.out.2.size) (And.intro (hm.lower H2.out.2.size) (And.intro (below_two H2.out.2 hb3) (And.intro hrw htw))))
  have HS3 := Lib.hid ((hb3.block _ (lt_blk H2.out.1)).trans H2.out.1)
  clear hg hm hap hb3 hrw htw HSC H2
  go_wp2_with fail
  generalize hX : World.alloc W3 _ = X
  obtain ⟨hx, hbx, hz⟩ := boxed hX rfl
  have hlb := HG.out.2.2.2.1.lb
  have hfew : Few b := HG.out.2.2.2.1.fewOf (by omega)
  have hbl : ∀ (i : Nat) (l : List Nat), b[i]? = some l → l.length ≤ 1048575 := fun i l hi => by have := (HG.out.2.2.2.1.few i l hi).1; omega
  have hal : ∀ (i : Nat) (l : List Nat), a[i]? = some l → l.length ≤ 1048575 := fun i l hi => by have := (HG.out.2.2.2.1.fewA i l hi).1; omega
  have hof := of_calls hn0 (by omega) X (HG.out.1.later hbx) hlb hfew HG.out.2.2.2.2 hbl hal (below_two HG.out.2.2.1 hbx).size
  have HOF := Lib.hid hof
  obtain ⟨B, hB⟩ : ∃ k, W3.heap.size = k := ⟨_, rfl⟩
  have HF := Lib.hid (And.intro hlb (And.intro hfew (And.intro HG.out.2.2.2.2 (And.intro hbl hal))))
  have HX := Lib.hid (And.intro (HG.out.1.later hbx) (And.intro (HG.out.2.1.later hbx) (And.intro (below_two HG.out.2.2.1 hbx) (And.intro (hB ▸ hx) ((hbx.block _ (lt_blk HS3.out)).trans HS3.out)))))
  rw [hB]
  clear hX hx hbx hz hlb hfew hbl hal hof HG hB HS3
  refine HOF.out.mono ?_
  rintro e Y ⟨qu, qb, qd, ts, up, deep, rfl, htr, hdt, hb⟩
  unfold treeV
  have HY := Lib.hid (And.intro htr (And.intro (HX.out.1.later hb) (And.intro (HX.out.2.1.later hb) (And.intro (below_two HX.out.2.2.1 hb) (And.intro ((hb.block _ (lt_blk HX.out.2.2.2.1)).trans HX.out.2.2.2.1) ((hb.block _ (lt_blk HX.out.2.2.2.2)).trans HX.out.2.2.2.2))))))
  have HDT := Lib.hid hdt
  clear htr hdt hb HOF HX
  go_upto_region 7 with (fail)
  generalize hZ : World.alloc Y _ = Z
  obtain ⟨hz, hbz, hzz⟩ := boxed hZ rfl
  obtain ⟨T, hT⟩ : ∃ k, Y.heap.size = k := ⟨_, rfl⟩
  have HZ := Lib.hid (And.intro (HY.out.1.later hbz) (And.intro (HY.out.2.1.later hbz) (And.intro (HY.out.2.2.1.later hbz) (And.intro (below_two HY.out.2.2.2.1 hbz) (And.intro ((hbz.block _ (lt_blk HY.out.2.2.2.2.1)).trans HY.out.2.2.2.2.1) (And.intro (hT ▸ hz) ((hbz.block _ (lt_blk HY.out.2.2.2.2.2)).trans HY.out.2.2.2.2.2)))))))
  rw [hT]
  clear hZ hz hbz hzz hT HY
  obtain ⟨x, hx⟩ : ∃ x, N1 % n = x := ⟨_, rfl⟩
  obtain ⟨y, hy⟩ : ∃ y, N2 % n = y := ⟨_, rfl⟩
  have hxn : x < n := hx ▸ Nat.mod_lt _ hn0
  have hyn : y < n := hy ▸ Nat.mod_lt _ hn0
  have hne : (n = 0) = False := eq_false (by omega)
  have hmx : (IntKind.i64.wrap (N1 : Int)).tmod (n : Int) = (x : Int) := by
    rw [show IntKind.i64.wrap (N1 : Int) = (N1 : Int) by rw [IntKind.wrap_i64]; omega, Int.tmod_eq_emod_of_nonneg (by omega), ← hx]
    omega
  have hmy : (IntKind.i64.wrap (N2 : Int)).tmod (n : Int) = (y : Int) := by
    rw [show IntKind.i64.wrap (N2 : Int) = (N2 : Int) by rw [IntKind.wrap_i64]; omega, Int.tmod_eq_emod_of_nonneg (by omega), ← hy]
    omega
  go_wp2_with fail
  go_region
  have ex : (N1 : Int) % (n : Int) = (x : Int) := by rw [← hx]; omega
  have ey : (N2 : Int) % (n : Int) = (y : Int) := by rw [← hy]; omega
  rw [ex, ey]
  clear ex ey
  have hdz : Below Z.heap.size Z Z.drew := (Below.refl _ _).drew
  have HV := Lib.hid (And.intro (HZ.out.1.later hdz) (And.intro (HZ.out.2.1.later hdz) (And.intro (HZ.out.2.2.1.later hdz) (And.intro (below_two HZ.out.2.2.2.1 hdz) (And.intro ((hdz.block _ (lt_blk HZ.out.2.2.2.2.1)).trans HZ.out.2.2.2.2.1) (And.intro ((hdz.block _ (lt_blk HZ.out.2.2.2.2.2.1)).trans HZ.out.2.2.2.2.2.1) ((hdz.block _ (lt_blk HZ.out.2.2.2.2.2.2)).trans HZ.out.2.2.2.2.2.2)))))))
  clear hdz HZ hne hmx hmy
  generalize Z.drew = V at HV ⊢
  by_cases h8 : n ≤ 8
  · have p8 : ((8 : Int) < (n : Int)) = False := eq_false (by omega)
    have s0 := cell_of_blk _ _ _ _ _ HV.out.2.2.2.2.2.2 0
    have s1 := cell_of_blk _ _ _ _ _ HV.out.2.2.2.2.2.2 1
    have t0 := cell_of_blk _ _ _ _ _ HV.out.2.2.2.2.2.1 0
    have t1 := cell_of_blk _ _ _ _ _ HV.out.2.2.2.2.2.1 1
    have t2 := cell_of_blk _ _ _ _ _ HV.out.2.2.2.2.2.1 2
    simp at s0 s1 t0 t1 t2
    by_cases h16 : es.length ≤ 16
    · have p16 : ((16 : Int) < (es.length : Int)) = False := eq_false (by omega)
      by_cases hxy : x = y
      · have qq : ((x : Int) == (y : Int)) = true := by simp [hxy]
        clear hxy
        go_wp2_with fail
        go_ret
        exact ⟨rfl, HV.out.2.2.2.1⟩
      · have qq : ((x : Int) == (y : Int)) = false := beq_eq_false_iff_ne.mpr (by omega)
        have ho1 := over_in HV.out.1 HDT.out x x hxn hxn
        have HO1 := Lib.hid ho1
        clear ho1
        go_wp2_with fail
        refine HO1.out.mono ?_
        rintro e V1 ⟨⟨r1, rfl, hr1⟩, hb1⟩
        have HB1 := Lib.hid (And.intro hr1 hb1)
        clear hr1 hb1 HO1
        cases r1
        · go_wp2_with fail
          go_ret
          exact ⟨rfl, below_two HV.out.2.2.2.1 HB1.out.2⟩
        · have ho2 := over_in (HV.out.1.later HB1.out.2) HDT.out y y hyn hyn
          have HO2 := Lib.hid ho2
          have tb := (HB1.out.2.block _ (lt_blk HV.out.2.2.2.2.2.1)).trans HV.out.2.2.2.2.2.1
          have u0 := cell_of_blk _ _ _ _ _ tb 0
          have u1 := cell_of_blk _ _ _ _ _ tb 1
          have u2 := cell_of_blk _ _ _ _ _ tb 2
          simp at u0 u1 u2
          clear ho2 tb
          go_wp2_with fail
          refine HO2.out.mono ?_
          rintro e V2 ⟨⟨r2, rfl, hr2⟩, hb2⟩
          have HB2 := Lib.hid (And.intro hr2 (below_two HB1.out.2 hb2))
          clear hr2 hb2 HO2 u0 u1 u2
          cases r2
          · go_wp2_with fail
            go_ret
            exact ⟨rfl, below_two HV.out.2.2.2.1 HB2.out.2⟩
          · have hfo := front_calls (HV.out.2.1.later HB2.out.2) HF.out.1 HF.out.2.1 HF.out.2.2.1 (by omega) HF.out.2.2.2.2 (HV.out.1.later HB2.out.2) HDT.out
            unfold treeV at hfo
            have HFO := Lib.hid hfo
            have tb := (HB2.out.2.block _ (lt_blk HV.out.2.2.2.2.2.1)).trans HV.out.2.2.2.2.2.1
            have gb := (HB2.out.2.block _ (lt_blk HV.out.2.2.2.2.1)).trans HV.out.2.2.2.2.1
            have u0 := cell_of_blk _ _ _ _ _ tb 0
            have u1 := cell_of_blk _ _ _ _ _ tb 1
            have u2 := cell_of_blk _ _ _ _ _ tb 2
            have w0 := cell_of_blk _ _ _ _ _ gb 0
            have w1 := cell_of_blk _ _ _ _ _ gb 1
            simp at u0 u1 u2 w0 w1
            clear hfo tb gb
            go_wp2_with fail
            clear u0 u1 u2 w0 w1
            refine HFO.out.mono ?_
            rintro e V3 ⟨Q, S', rfl, hbg, hb3⟩
            have H3 := Lib.hid (And.intro hbg (below_two HB2.out.2 hb3))
            clear hbg hb3 HFO
            go_wp2_with fail
            generalize hX4 : V3.alloc _ = X4
            obtain ⟨hx4, hbx4, -⟩ := boxed hX4 rfl
            obtain ⟨b4, hb4⟩ : ∃ k, V3.heap.size = k := ⟨_, rfl⟩
            rw [hb4] at hx4 ⊢
            have hof := ofI_some b4 0 2 2 [(x : Int), (y : Int)] X4 rfl (by omega) (fun k z hz => by
              rw [cell_of_blk _ _ _ _ _ hx4, Nat.zero_add]
              match k, hz with
              | 0, hz => simpa using hz
              | 1, hz => simpa using hz
              | k + 2, hz => simp at hz) (by omega)
            have HO4 := Lib.hid hof
            have H4 := Lib.hid (And.intro (H3.out.1.later hbx4) (below_two H3.out.2 hbx4))
            obtain ⟨st, hst⟩ : ∃ st, ofLI [(x : Int), (y : Int)] = st := ⟨_, rfl⟩
            have HST := Lib.hid (show (∀ z : Int, z ∈ st ↔ z = (x : Int) ∨ z = (y : Int)) ∧ st.length ≤ 2 from by
              rw [← hst]
              refine ⟨fun z => ?_, ofLI_len _⟩
              show z ∈ ins ltI (y : Int) (ins ltI (x : Int) []) ↔ _
              rw [mem_ins, mem_ins]
              simp
              exact or_comm)
            rw [hst] at HO4
            clear hX4 hx4 hbx4 hb4 hof hst
            refine HO4.out.mono ?_
            rintro e V5 ⟨v5, rfl, hs5, hb5⟩
            have hall := frontAll_calls (w := V5) (n := n) (fun _ => H4.out.1.later hb5) (by omega) (A := some ⟨Q, 0, none⟩) (fun _ => rfl) hs5 (by have := HST.out.2; omega)
            have HALL := Lib.hid hall
            have H5 := Lib.hid (below_two H4.out.2 hb5)
            clear hs5 hb5 hall HO4
            go_wp2_with fail
            refine HALL.out.mono ?_
            rintro e V6 ⟨v6, O, rfl, hs6, hO, hb6⟩
            obtain ⟨A6, c6, rfl, -, -⟩ := SI.isset_cellsAt hs6
            have hOl : O.length ≤ n := set_len hs6.srt (fun z hz => by
              obtain ⟨k, e, hk⟩ := (hO z).1 hz
              refine ⟨k, e, HDT.out.lt k ?_⟩
              cases hk with
              | base _ _ hp => obtain ⟨u, h1, h2, _⟩ := hp; exact h2.2.1.step h1
              | step _ _ hp => obtain ⟨u, h1, h2, _⟩ := hp; exact h2.2.1.step h1)
            have H6 := Lib.hid (And.intro hs6 (And.intro hO (below_two H5.out hb6)))
            have hwx : Way (nb b) 0 x := (HB1.out.1.1 trivial).1
            have hwy : Way (nb b) 0 y := (HB2.out.1.1 trivial).1
            have HWW := Lib.hid (And.intro hwx hwy)
            have hrw9 : ∀ (i : Nat) (l : List Nat), b[i]? = some l → l.length ≤ 1000 := fun i l hi => by
              have h1 := HF.out.2.2.1.nd i
              rw [List.getD_eq_getElem?_getD, hi] at h1
              have := len_range l n h1 (fun z hz => by have := HF.out.2.1.lt i l hi z hz; rw [HF.out.1] at this; exact this)
              omega
            have HRW := Lib.hid hrw9
            clear hs6 hO hb6 HALL hwx hwy hrw9
            go_upto_region 11 with (fail)
            generalize hX7 : World.alloc V6 _ = X7
            obtain ⟨hx7, hbx7, -⟩ := boxed hX7 rfl
            obtain ⟨b7, hb7⟩ : ∃ k, V6.heap.size = k := ⟨_, rfl⟩
            rw [hb7] at hx7 ⊢
            have H7 := Lib.hid (And.intro (H6.out.1.only (Only.of_below hbx7) (fun g hg e => by have := (isset_lt H6.out.1 hg).2; omega)) (And.intro hx7 (below_two H6.out.2.2 hbx7)))
            clear hX7 hx7 hbx7 hb7
            go_wp2_with fail
            go_loopw [74] (fun kv wr => ∃ k : Nat, kv = .int .i64 (k : Int) ∧ Hid (k ≤ n ∧ Below X7.heap.size X7 wr)) (fun kv _ => n - (intOf kv).toNat)
            case atStart => exact ⟨0, rfl, Lib.hid ⟨Nat.zero_le _, Below.refl _ _⟩⟩
            case round =>
              obtain ⟨wo, rfl⟩ : ∃ x : World, x = wr := ⟨_, rfl⟩
              obtain ⟨k, rfl, HI⟩ := hrel
              by_cases hk : k < n
              · have pp1 : ((k : Int) < (n : Int)) = True := eq_true (by omega)
                by_cases hkx : k = x
                · have q1 : ((k : Int) != (x : Int)) = false := by simp [hkx]
                  clear hkx
                  go_wp2_with fail
                  go_roundw
                  case rel => exact ⟨k + 1, by go_num, Lib.hid ⟨by omega, HI.out.2⟩⟩
                  case measure => simp [intOf]; omega
                · have q1 : ((k : Int) != (x : Int)) = true := by simp; omega
                  by_cases hky : k = y
                  · have q2 : ((k : Int) != (y : Int)) = false := by simp [hky]
                    clear hky hkx
                    go_wp2_with fail
                    go_roundw
                    case rel => exact ⟨k + 1, by go_num, Lib.hid ⟨by omega, HI.out.2⟩⟩
                    case measure => simp [intOf]; omega
                  · have q2 : ((k : Int) != (y : Int)) = true := by simp; omega
                    have hap := apart_calls (HV.out.2.2.1.later (below_two H7.out.2.2 HI.out.2)) HF.out.2.1 HF.out.1 (by omega) HRW.out x y k hxn hyn
                    have HAP := Lib.hid hap
                    have HK := Lib.hid (And.intro hkx hky)
                    clear hap hkx hky
                    go_wp2_with fail
                    refine HAP.out.mono ?_
                    rintro e V8 ⟨r, rfl, hr, hb8⟩
                    have H8 := Lib.hid (And.intro hr (below_two HI.out.2 hb8))
                    clear hr hb8 HAP
                    cases r
                    · go_wp2_with fail
                      go_roundw
                      case rel => exact ⟨k + 1, by go_num, Lib.hid ⟨by omega, H8.out.2⟩⟩
                      case measure => simp [intOf]; omega
                    · have hbk := (H8.out.2.block _ (lt_blk H7.out.2.1)).trans H7.out.2.1
                      have ck := cell_of_blk _ _ _ _ _ hbk 0
                      simp at ck
                      have hin : (k : Int) ∈ O := by
                        obtain ⟨lx, ly, h1, h2, h3⟩ := H8.out.1 rfl
                        have hm := meets (n := n) HDT.out HWW.out.1 HWW.out.2 h1 h2 (fun e => HK.out.1 e.symm) (fun e => HK.out.2 e.symm) h3
                        exact (H6.out.2.1 _).2 ⟨k, rfl, hm.more9 (fun z hz => (HST.out.1 z).2 hz)⟩
                      have hha := hasI V5.heap.size (.slice A6 O.length c6) O (k : Int) V8 (H7.out.1.only (Only.of_below H8.out.2) (fun g hg e => by have := (isset_lt H7.out.1 hg).2; omega)) (by omega)
                      rw [decide_eq_true hin] at hha
                      have HHA := Lib.hid hha
                      clear hbk hha hin
                      go_wp2_with fail
                      refine HHA.out.mono ?_
                      rintro e V9 ⟨rfl, hb9⟩
                      have H9 := Lib.hid (below_two H8.out.2 hb9)
                      clear hb9 HHA ck
                      go_wp2_with fail
                      go_roundw
                      case rel => exact ⟨k + 1, by go_num, Lib.hid ⟨by omega, H9.out⟩⟩
                      case measure => simp [intOf]; omega
              · obtain rfl : k = n := by have := HI.out.1; omega
                have pp1 : ((k : Int) < (k : Int)) = False := eq_false (by omega)
                have HB := Lib.hid (below_two HV.out.2.2.2.1 (below_two H7.out.2.2 HI.out.2))
                go_wp2_with fail
                go_ret
                exact ⟨rfl, HB.out⟩
    · have p16 : ((16 : Int) < (es.length : Int)) = True := eq_true (by omega)
      go_wp2_with fail
      go_ret
      exact ⟨rfl, HV.out.2.2.2.1⟩
  · have p8 : ((8 : Int) < (n : Int)) = True := eq_true (by omega)
    go_wp2_with fail
    go_ret
    exact ⟨rfl, HV.out.2.2.2.1⟩
theorem fme_calls (N1 N2 : Nat) (hN1 : N1 ≤ 255) (hN2 : N2 ≤ 255) (N : Nat) (A : Option Addr) (c : Nat) (es : List (Nat × Nat)) (W : World) (hN : N ≤ 255) (hA : Edges W A es) (hc : es.length ≤ c) :
    Calls Try.prog 9 #[.agg #[.int .u8 N, .slice A es.length c], .int .u8 (N1 : Int), .int .u8 (N2 : Int)] W fun e W' => e = .returned (.bool true) ∧ Below W.heap.size W W' := by
  by_cases hl : es.length ≤ 40
  · exact fme_near N1 N2 hN1 hN2 N A c es W hN hA hc hl
  · exact fme_far N1 N2 hN1 hN2 N A c es W hl
theorem fme_int (N : Nat) (A : Option Addr) (c : Nat) (es : List (Nat × Nat)) (W : World) (hN : N ≤ 255) (hA : Edges W A es) (hc : es.length ≤ c) (x y : Int) (hx : 0 ≤ x ∧ x ≤ 255) (hy : 0 ≤ y ∧ y ≤ 255) :
    Calls Try.prog 9 #[.agg #[.int .u8 N, .slice A es.length c], .int .u8 x, .int .u8 y] W fun e W' => e = .returned (.bool true) ∧ Below W.heap.size W W' := by
  obtain ⟨N1, rfl⟩ := Int.eq_ofNat_of_zero_le hx.1
  obtain ⟨N2, rfl⟩ := Int.eq_ofNat_of_zero_le hy.1
  by_cases hl : es.length ≤ 40
  · exact fme_near N1 N2 (by omega) (by omega) N A c es W hN hA hc hl
  · exact fme_far N1 N2 (by omega) (by omega) N A c es W hl
end Go.Proofs.Ytnkbbjeepdjamaa
