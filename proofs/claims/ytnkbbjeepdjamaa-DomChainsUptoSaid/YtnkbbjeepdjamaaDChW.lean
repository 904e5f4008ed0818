/- refinerylaw08.DomChains: the walk. Conditions: the numbers are of their kinds. -/
import Derived.Test.YtnkbbjeepdjamaaDOvW
import Derived.Test.YtnkbbjeepdjamaaDChain
namespace Go.Proofs.Ytnkbbjeepdjamaa
open Go.RowKit
set_option maxHeartbeats 2000000 in
theorem chains_far (N : Nat) (A : Option Addr) (c : Nat) (es : List (Nat × Nat)) (W : World) (hl : ¬ es.length ≤ 40) :
    Calls Try.prog 4 #[.agg #[.int .u8 N, .slice A es.length c]] W fun e W' => e = .returned (.bool true) ∧ Below W.heap.size W W' := by
  go_enter Try.func4, Try.ntmps4
  go_wp2_with fail
  generalize hX : World.alloc W _ = X
  obtain ⟨hx, hbx, hz⟩ := boxed hX rfl
  have HX := Lib.hid (And.intro hx (And.intro hbx hz))
  clear hX hx hbx hz
  refine (awake8 X).mono ?_
  rintro e W1 ⟨rfl, hb⟩
  have H1 := Lib.hid (And.intro ((hb.block _ (lt_blk HX.out.1)).trans HX.out.1) (below_two HX.out.2.1 hb))
  clear hb HX
  have x0 := cell_of_blk _ _ _ _ _ H1.out.1 0
  have x1 := cell_of_blk _ _ _ _ _ H1.out.1 1
  simp at x0 x1
  go_wp2_with fail
  clear x0 x1
  refine (light_calls7 N A es.length c W1).mono ?_
  rintro e W2 ⟨rfl, hb⟩
  have hbel := below_two H1.out.2 hb
  rw [decide_eq_false hl]
  clear hb H1
  go_wp2_with fail
  go_ret
  exact ⟨rfl, hbel⟩
set_option maxRecDepth 100000 in
set_option maxHeartbeats 8000000 in
theorem chains_near (N : Nat) (A : Option Addr) (c : Nat) (es : List (Nat × Nat)) (W : World) (hN : N ≤ 255) (hA : Edges W A es) (hc : es.length ≤ c) (hl : es.length ≤ 40) :
    Calls Try.prog 4 #[.agg #[.int .u8 N, .slice A es.length c]] W fun e W' => e = .returned (.bool true) ∧ Below W.heap.size W W' := by
  have HA := Lib.hid (And.intro hA hc)
  clear hA hc
  obtain ⟨n, hn⟩ : ∃ n, 1 + N % 12 = n := ⟨_, rfl⟩
  have hn0 : 0 < n := by omega
  have hn12 : n ≤ 12 := by omega
  have HN := Lib.hid hn
  clear hn
  go_enter Try.func4, Try.ntmps4
  go_wp2_with fail
  generalize hX : World.alloc W _ = X
  obtain ⟨hx, hbx, hz⟩ := boxed hX rfl
  have HX := Lib.hid (And.intro hx (And.intro hbx hz))
  clear hX hx hbx hz
  refine (awake8 X).mono ?_
  rintro e W1 ⟨rfl, hb⟩
  have H1 := Lib.hid (And.intro ((hb.block _ (lt_blk HX.out.1)).trans HX.out.1) (below_two HX.out.2.1 hb))
  clear hb HX
  have x0 := cell_of_blk _ _ _ _ _ H1.out.1 0
  have x1 := cell_of_blk _ _ _ _ _ H1.out.1 1
  simp at x0 x1
  go_wp2_with fail
  clear x0 x1
  refine (light_calls7 N A es.length c W1).mono ?_
  rintro e W2 ⟨rfl, hb⟩
  have H2 := Lib.hid (And.intro ((hb.block _ (lt_blk H1.out.1)).trans H1.out.1) (below_two H1.out.2 hb))
  rw [decide_eq_true hl]
  clear hb H1
  have x0 := cell_of_blk _ _ _ _ _ H2.out.1 0
  have x1 := cell_of_blk _ _ _ _ _ H2.out.1 1
  simp at x0 x1
  go_wp2_with fail
  clear x0 x1
  have hsc := small_calls N hN A c es W2 (HA.out.1.later H2.out.2) HA.out.2 (by omega)
  rw [HN.out] at hsc
  have HSC := Lib.hid hsc
  clear hsc
  refine HSC.out.mono ?_
  rintro e W3 ⟨gv, q, vs, S, rfl, hg, hm, hap, hb3⟩
  have hrw := graph_rows n hn0 es
  have htw := graph_twin n hn0 es
  generalize graphB n es = b at *
  generalize graphA n es = a at *
  obtain ⟨q1, p1, rfl⟩ := hg.form
  rw [hrw.lb] at hg ⊢
  have HG := Lib.hid (And.intro (hg.lower H2.out.2.size) (And.intro (hm.lower H2.out.2.size) (And.intro (below_two H2.out.2 hb3) (And.intro hrw htw))))
  clear hg hm hap hb3 hrw htw HSC H2
  go_wp2_with fail
  generalize hX : World.alloc W3 _ = X
  obtain ⟨hx, hbx, hz⟩ := boxed hX rfl
  have hlb := HG.out.2.2.2.1.lb
  have hfew : Few b := HG.out.2.2.2.1.fewOf (by omega)
  have hbl : ∀ (i : Nat) (l : List Nat), b[i]? = some l → l.length ≤ 1048575 := fun i l hi => by have := (HG.out.2.2.2.1.few i l hi).1; omega
  have hal : ∀ (i : Nat) (l : List Nat), a[i]? = some l → l.length ≤ 1048575 := fun i l hi => by have := (HG.out.2.2.2.1.fewA i l hi).1; omega
  have hof := of_calls hn0 (by omega) X (HG.out.1.later hbx) hlb hfew HG.out.2.2.2.2 hbl hal (below_two HG.out.2.2.1 hbx).size
  have HOF := Lib.hid hof
  have HF := Lib.hid (And.intro hlb (And.intro hfew hbl))
  have HX := Lib.hid (And.intro (HG.out.2.1.later hbx) (below_two HG.out.2.2.1 hbx))
  clear hX hx hbx hz hlb hfew hbl hal hof HG
  refine HOF.out.mono ?_
  rintro e Y ⟨qu, qb, qd, ts, up, deep, rfl, htr, hdt, hb⟩
  unfold treeV
  have HY := Lib.hid (And.intro htr (And.intro hdt (And.intro (below_two HX.out.2 hb) (HX.out.1.later hb))))
  clear htr hdt hb HOF HX
  go_wp2_with fail
  generalize hZ : World.alloc Y _ = Z
  obtain ⟨hz, hbz, hzz⟩ := boxed hZ rfl
  obtain ⟨T, hT⟩ : ∃ k, Y.heap.size = k := ⟨_, rfl⟩
  have HZ := Lib.hid (And.intro (HY.out.1.later hbz) (And.intro (below_two HY.out.2.2.1 hbz) (And.intro (hT ▸ hz) (HY.out.2.2.2.later hbz))))
  have HDT := Lib.hid HY.out.2.1
  rw [hT]
  clear hZ hz hbz hzz hT HY
  go_wp2_with fail
  go_loopw [26] (fun v wr => ∃ i : Nat, v = .int .i64 (i : Int) ∧ Hid (i ≤ n ∧ Below Z.heap.size Z wr)) (fun v _ => n - (intOf v).toNat)
  case atStart => exact ⟨0, rfl, Lib.hid ⟨Nat.zero_le _, Below.refl _ _⟩⟩
  case round =>
    obtain ⟨wo, rfl⟩ : ∃ x : World, x = wr := ⟨_, rfl⟩
    obtain ⟨i, rfl, HI⟩ := hrel
    by_cases hi : i < n
    · have pp1 : ((i : Int) < (n : Int)) = True := eq_true (by omega)
      go_wp2_with fail
      go_loopw [31, 7] (fun v m wr => ∃ j : Nat, v = .int .i64 (j : Int) ∧ m = .int .i64 ((LT.overs (nb b) i j).length : Int) ∧ Hid (j ≤ n ∧ Below Z.heap.size Z wr)) (fun v _ _ => n - (intOf v).toNat)
      case atStart => exact ⟨0, rfl, rfl, Lib.hid ⟨Nat.zero_le _, HI.out.2⟩⟩
      case round =>
        obtain ⟨wq, rfl⟩ : ∃ x : World, x = wr := ⟨_, rfl⟩
        obtain ⟨j, rfl, rfl, HJ⟩ := hrel
        have HQ := Lib.hid HJ.out.2
        by_cases hj : j < n
        · have pp2 : ((j : Int) < (n : Int)) = True := eq_true (by omega)
          have HS := Lib.hid (LT.overs_succ (nb b) i j)
          have hol := LT.overs_le (nb b) i j
          obtain ⟨m, hm⟩ : ∃ m, (LT.overs (nb b) i j).length = m := ⟨_, rfl⟩
          rw [hm] at hol HS
          rw [hm]
          clear hm
          by_cases ho : LT.Ov (nb b) j i
          · have HOV := Lib.hid ho
            clear ho
            have hTr := (HQ.out.block _ (lt_blk HZ.out.2.2.1)).trans HZ.out.2.2.1
            have x0 := cell_of_blk _ _ _ _ _ hTr 0
            have x1 := cell_of_blk _ _ _ _ _ hTr 1
            have x2 := cell_of_blk _ _ _ _ _ hTr 2
            simp at x0 x1 x2
            clear hTr
            go_wp2_with fail
            clear x0 x1 x2
            refine (over_in (HZ.out.1.later HQ.out) HDT.out j i hj hi).mono ?_
            rintro e W_HA1 ⟨⟨r, rfl, hr⟩, hb1⟩
            obtain rfl : r = true := hr.2 HOV.out
            have HA1 := Lib.hid (below_two HQ.out hb1)
            clear hr hb1
            go_wp2_with fail
            go_loopw [43] (fun v wr => ∃ k : Nat, v = .int .i64 (k : Int) ∧ Hid (k ≤ n ∧ Below Z.heap.size Z wr)) (fun v _ => n - (intOf v).toNat)
            case atStart => exact ⟨0, rfl, Lib.hid ⟨Nat.zero_le _, HA1.out⟩⟩
            case round =>
              obtain ⟨ws, rfl⟩ : ∃ x : World, x = wr := ⟨_, rfl⟩
              obtain ⟨k, rfl, HK⟩ := hrel
              have HQ2 := Lib.hid HK.out.2
              by_cases hk : k < n
              · have pp3 : ((k : Int) < (n : Int)) = True := eq_true (by omega)
                by_cases ho2 : LT.Ov (nb b) k i
                · have HO2 := Lib.hid ho2
                  clear ho2
                  have hTr := (HQ2.out.block _ (lt_blk HZ.out.2.2.1)).trans HZ.out.2.2.1
                  have x0 := cell_of_blk _ _ _ _ _ hTr 0
                  have x1 := cell_of_blk _ _ _ _ _ hTr 1
                  have x2 := cell_of_blk _ _ _ _ _ hTr 2
                  simp at x0 x1 x2
                  clear hTr
                  go_wp2_with fail
                  clear x0 x1 x2
                  refine (over_in (HZ.out.1.later HQ2.out) HDT.out k i hk hi).mono ?_
                  rintro e W_HB1 ⟨⟨r, rfl, hr⟩, hb1⟩
                  obtain rfl : r = true := hr.2 HO2.out
                  have HB1 := Lib.hid (below_two HQ2.out hb1)
                  clear hr hb1
                  by_cases ho3 : LT.Ov (nb b) j k
                  · have HO3 := Lib.hid ho3
                    clear ho3
                    have hTr := (HB1.out.block _ (lt_blk HZ.out.2.2.1)).trans HZ.out.2.2.1
                    have x0 := cell_of_blk _ _ _ _ _ hTr 0
                    have x1 := cell_of_blk _ _ _ _ _ hTr 1
                    have x2 := cell_of_blk _ _ _ _ _ hTr 2
                    simp at x0 x1 x2
                    clear hTr
                    go_wp2_with fail
                    clear x0 x1 x2
                    refine (over_in (HZ.out.1.later HB1.out) HDT.out j k hj hk).mono ?_
                    rintro e W_HB2 ⟨⟨r, rfl, hr⟩, hb1⟩
                    obtain rfl : r = true := hr.2 HO3.out
                    have HB2 := Lib.hid (below_two HB1.out hb1)
                    clear hr hb1
                    go_wp2_with fail
                    go_roundw
                    case rel => exact ⟨k + 1, by go_num, Lib.hid ⟨by omega, HB2.out⟩⟩
                    case measure => simp [intOf]; omega
                  · have HO3 := Lib.hid ho3
                    obtain ⟨di, hdi, _⟩ := HDT.out.deep_of HOV.out.2.1
                    have HO4 := Lib.hid ((HDT.out.pair di i j k hdi HOV.out HO2.out).resolve_left ho3)
                    clear ho3 hdi
                    have hTr := (HB1.out.block _ (lt_blk HZ.out.2.2.1)).trans HZ.out.2.2.1
                    have x0 := cell_of_blk _ _ _ _ _ hTr 0
                    have x1 := cell_of_blk _ _ _ _ _ hTr 1
                    have x2 := cell_of_blk _ _ _ _ _ hTr 2
                    simp at x0 x1 x2
                    clear hTr
                    go_wp2_with fail
                    clear x0 x1 x2
                    refine (over_in (HZ.out.1.later HB1.out) HDT.out j k hj hk).mono ?_
                    rintro e W_HB2 ⟨⟨r, rfl, hr⟩, hb1⟩
                    obtain rfl : r = false := (by cases r with | false => rfl | true => exact absurd (hr.1 rfl) HO3.out)
                    have HB2 := Lib.hid (below_two HB1.out hb1)
                    clear hr hb1
                    have hTr := (HB2.out.block _ (lt_blk HZ.out.2.2.1)).trans HZ.out.2.2.1
                    have x0 := cell_of_blk _ _ _ _ _ hTr 0
                    have x1 := cell_of_blk _ _ _ _ _ hTr 1
                    have x2 := cell_of_blk _ _ _ _ _ hTr 2
                    simp at x0 x1 x2
                    clear hTr
                    go_wp2_with fail
                    clear x0 x1 x2
                    refine (over_in (HZ.out.1.later HB2.out) HDT.out k j hk hj).mono ?_
                    rintro e W_HB3 ⟨⟨r, rfl, hr⟩, hb1⟩
                    obtain rfl : r = true := hr.2 HO4.out
                    have HB3 := Lib.hid (below_two HB2.out hb1)
                    clear hr hb1
                    go_wp2_with fail
                    go_roundw
                    case rel => exact ⟨k + 1, by go_num, Lib.hid ⟨by omega, HB3.out⟩⟩
                    case measure => simp [intOf]; omega
                · have HO2 := Lib.hid ho2
                  clear ho2
                  have hTr := (HQ2.out.block _ (lt_blk HZ.out.2.2.1)).trans HZ.out.2.2.1
                  have x0 := cell_of_blk _ _ _ _ _ hTr 0
                  have x1 := cell_of_blk _ _ _ _ _ hTr 1
                  have x2 := cell_of_blk _ _ _ _ _ hTr 2
                  simp at x0 x1 x2
                  clear hTr
                  go_wp2_with fail
                  clear x0 x1 x2
                  refine (over_in (HZ.out.1.later HQ2.out) HDT.out k i hk hi).mono ?_
                  rintro e W_HB1 ⟨⟨r, rfl, hr⟩, hb1⟩
                  obtain rfl : r = false := (by cases r with | false => rfl | true => exact absurd (hr.1 rfl) HO2.out)
                  have HB1 := Lib.hid (below_two HQ2.out hb1)
                  clear hr hb1
                  go_wp2_with fail
                  go_roundw
                  case rel => exact ⟨k + 1, by go_num, Lib.hid ⟨by omega, HB1.out⟩⟩
                  case measure => simp [intOf]; omega
              · obtain rfl : n = k := by have := HK.out.1; omega
                have pp3 : ((n : Int) < (n : Int)) = False := eq_false (by omega)
                go_wp2_with fail
                go_roundw
                case rel => exact ⟨j + 1, by go_num, by rw [HS.out.1 HOV.out]; go_num, Lib.hid ⟨by omega, HQ2.out⟩⟩
                case measure => simp [intOf]; omega
          · have HOV := Lib.hid ho
            clear ho
            have hTr := (HQ.out.block _ (lt_blk HZ.out.2.2.1)).trans HZ.out.2.2.1
            have x0 := cell_of_blk _ _ _ _ _ hTr 0
            have x1 := cell_of_blk _ _ _ _ _ hTr 1
            have x2 := cell_of_blk _ _ _ _ _ hTr 2
            simp at x0 x1 x2
            clear hTr
            go_wp2_with fail
            clear x0 x1 x2
            refine (over_in (HZ.out.1.later HQ.out) HDT.out j i hj hi).mono ?_
            rintro e W_HA1 ⟨⟨r, rfl, hr⟩, hb1⟩
            obtain rfl : r = false := (by cases r with | false => rfl | true => exact absurd (hr.1 rfl) HOV.out)
            have HA1 := Lib.hid (below_two HQ.out hb1)
            clear hr hb1
            go_wp2_with fail
            go_roundw
            case rel => exact ⟨j + 1, by go_num, by rw [HS.out.2 HOV.out], Lib.hid ⟨by omega, HA1.out⟩⟩
            case measure => simp [intOf]; omega
        · obtain rfl : n = j := by have := HJ.out.1; omega
          have pp2 : ((n : Int) < (n : Int)) = False := eq_false (by omega)
          have HQJ := Lib.hid HJ.out.2
          have hle := LT.overs_le (nb b) i n
          have i00 : (0 ≤ (i : Int)) = True := eq_true (by omega)
          by_cases hw : Way (nb b) 0 i
          · obtain ⟨di, hdi, _⟩ := HDT.out.deep_of hw
            have hmany := HDT.out.many hw hdi
            rw [hmany] at hle
            rw [hmany]
            have HDI := Lib.hid hdi
            have HOI := Lib.hid (LT.ov_self hw)
            clear hmany hw hdi
            go_wp2_with fail
            go_loopw [10, 11] (fun s u wr => ∃ t : Nat, s = .int .i64 (t : Int) ∧ ∃ x : Int, u = .int .i64 x ∧ Hid (t ≤ di + 1 ∧ Below Z.heap.size Z wr ∧ ((t = di + 1 ∧ x = -1) ∨ ∃ c dc : Nat, x = (c : Int) ∧ c < n ∧ LT.Ov (nb b) c i ∧ deep[c]? = some (dc : Int) ∧ t + dc = di))) (fun s _ _ => di + 2 - (intOf s).toNat)
            case atStart => exact ⟨0, rfl, (i : Int), rfl, Lib.hid ⟨Nat.zero_le _, HQJ.out, .inr ⟨i, di, rfl, hi, HOI.out, HDI.out, by omega⟩⟩⟩
            case round =>
              obtain ⟨wt, rfl⟩ : ∃ x : World, x = wr := ⟨_, rfl⟩
              obtain ⟨t, rfl, x, rfl, HT⟩ := hrel
              have HQ3 := Lib.hid HT.out.2.1
              rcases HT.out.2.2 with ⟨rfl, rfl⟩ | ⟨c, dc, rfl, hc, hoc, hdc, htd⟩
              · go_wp2_with fail
                go_roundw
                case rel => exact ⟨i + 1, by go_num, Lib.hid ⟨by omega, HQ3.out⟩⟩
                case measure => simp [intOf]; omega
              · have c00 : (0 ≤ (c : Int)) = True := eq_true (by omega)
                obtain ⟨y, hy, hyc⟩ := HDT.out.step HDI.out hoc hdc
                have HOC := Lib.hid hoc
                have HY3 := Lib.hid (And.intro hy (And.intro hyc htd))
                have ht1 : t + 1 ≤ di + 1 := by omega
                have tn : ((n : Int) < (t : Int) + 1) = False := eq_false (by omega)
                have tm : (((n : Int) < ((t + 1 : Nat) : Int))) = False := eq_false (by omega)
                clear hoc hdc htd hy hyc
                have hTr := (HQ3.out.block _ (lt_blk HZ.out.2.2.1)).trans HZ.out.2.2.1
                have x0 := cell_of_blk _ _ _ _ _ hTr 0
                have x1 := cell_of_blk _ _ _ _ _ hTr 1
                have x2 := cell_of_blk _ _ _ _ _ hTr 2
                simp at x0 x1 x2
                clear hTr
                go_wp2_with fail
                clear x0 x1 x2
                refine (over_in (HZ.out.1.later HQ3.out) HDT.out i i hi hi).mono ?_
                rintro e W_HC1 ⟨⟨r, rfl, hr⟩, hb1⟩
                obtain rfl : r = true := hr.2 HOI.out
                have HC1 := Lib.hid (below_two HQ3.out hb1)
                clear hr hb1
                have hTr := (HC1.out.block _ (lt_blk HZ.out.2.2.1)).trans HZ.out.2.2.1
                have x0 := cell_of_blk _ _ _ _ _ hTr 0
                have x1 := cell_of_blk _ _ _ _ _ hTr 1
                have x2 := cell_of_blk _ _ _ _ _ hTr 2
                simp at x0 x1 x2
                clear hTr
                go_wp2_with fail
                clear x0 x1 x2
                refine (over_in (HZ.out.1.later HC1.out) HDT.out c i hc hi).mono ?_
                rintro e W_HC2 ⟨⟨r, rfl, hr⟩, hb1⟩
                obtain rfl : r = true := hr.2 HOC.out
                have HC2 := Lib.hid (below_two HC1.out hb1)
                clear hr hb1
                have hTr := (HC2.out.block _ (lt_blk HZ.out.2.2.1)).trans HZ.out.2.2.1
                have x0 := cell_of_blk _ _ _ _ _ hTr 0
                have x1 := cell_of_blk _ _ _ _ _ hTr 1
                have x2 := cell_of_blk _ _ _ _ _ hTr 2
                simp at x0 x1 x2
                clear hTr
                go_wp2_with fail
                clear x0 x1 x2
                refine (up_in (HZ.out.1.later HC2.out) c y HY3.out.1 hc).mono ?_
                rintro e W_HC3 ⟨rfl, hb1⟩
                have HC3 := Lib.hid (below_two HC2.out hb1)
                clear hb1
                go_wp2_with fail
                go_roundw
                case rel =>
                 repeat apply Exists.intro
                 refine ⟨?_, rfl⟩
                 exact ⟨t + 1, by go_num, y, rfl, Lib.hid ⟨ht1, HC3.out, by
                  have htd := HY3.out.2.2
                  rcases HY3.out.2.1 with ⟨h1, h2⟩ | ⟨u, d', h1, h2, h3, h4, h5⟩
                  · exact .inl ⟨by omega, h2⟩
                  · exact .inr ⟨u, d', h1, h2, h3, h5, by omega⟩⟩⟩
                case measure => simp [intOf]; omega
          · rw [LT.overs_none hw]
            have HNW := Lib.hid hw
            clear hw
            go_wp2_with fail
            go_loopw [10, 11] (fun s u wr => s = .int .i64 0 ∧ u = .int .i64 (i : Int) ∧ Hid (Below Z.heap.size Z wr)) (fun _ _ _ => 1)
            case atStart => exact ⟨rfl, rfl, Lib.hid HQJ.out⟩
            case round =>
              obtain ⟨wt, rfl⟩ : ∃ x : World, x = wr := ⟨_, rfl⟩
              obtain ⟨rfl, rfl, HQ3⟩ := hrel
              have hTr := (HQ3.out.block _ (lt_blk HZ.out.2.2.1)).trans HZ.out.2.2.1
              have x0 := cell_of_blk _ _ _ _ _ hTr 0
              have x1 := cell_of_blk _ _ _ _ _ hTr 1
              have x2 := cell_of_blk _ _ _ _ _ hTr 2
              simp at x0 x1 x2
              clear hTr
              go_wp2_with fail
              clear x0 x1 x2
              refine (over_in (HZ.out.1.later HQ3.out) HDT.out i i hi hi).mono ?_
              rintro e W_HC1 ⟨⟨r, rfl, hr⟩, hb1⟩
              obtain rfl : r = false := (by cases r with | false => rfl | true => exact absurd (hr.1 rfl).1 HNW.out)
              have HC1 := Lib.hid (below_two HQ3.out hb1)
              clear hr hb1
              go_wp2_with fail
              go_roundw
              case rel => exact ⟨i + 1, by go_num, Lib.hid ⟨by omega, HC1.out⟩⟩
              case measure => simp [intOf]; omega
    · obtain rfl : n = i := by have := HI.out.1; omega
      have pp1 : ((n : Int) < (n : Int)) = False := eq_false (by omega)
      have hbl := below_two HZ.out.2.1 HI.out.2
      have HBL := Lib.hid hbl
      clear hbl
      go_wp2_with fail
      go_ret
      exact ⟨rfl, HBL.out⟩
theorem chains_calls (N : Nat) (A : Option Addr) (c : Nat) (es : List (Nat × Nat)) (W : World) (hN : N ≤ 255) (hA : Edges W A es) (hc : es.length ≤ c) :
    Calls Try.prog 4 #[.agg #[.int .u8 N, .slice A es.length c]] W fun e W' => e = .returned (.bool true) ∧ Below W.heap.size W W' := by
  by_cases hl : es.length ≤ 40
  · exact chains_near N A c es W hN hA hc hl
  · exact chains_far N A c es W hl
end Go.Proofs.Ytnkbbjeepdjamaa
