/- refinerylaw08.DomUps: the walk. Conditions: the numbers are of their kinds. -/
import Derived.Test.YtnkbbjeepdjamaaDOvW
import Derived.Test.YtnkbbjeepdjamaaDUpP
namespace Go.Proofs.Ytnkbbjeepdjamaa
open Go.RowKit
/-- Which of the first j places is told. -/
def wantV (x : Int) (j : Nat) : Int := if 0 ≤ x ∧ x < (j : Int) then x else -1
theorem wantV_zero (x : Int) : wantV x 0 = -1 := by unfold wantV; rw [if_neg (by omega)]
theorem wantV_hit {x : Int} {j : Nat} (h : x = (j : Int)) : wantV x (j + 1) = (j : Int) := by unfold wantV; rw [if_pos (by omega), h]
theorem wantV_miss {x : Int} {j : Nat} (h : x ≠ (j : Int)) : wantV x (j + 1) = wantV x j := by
  unfold wantV
  by_cases e : 0 ≤ x ∧ x < (j : Int)
  · rw [if_pos e, if_pos (by omega)]
  · rw [if_neg e, if_neg (by omega)]
theorem wantV_full {x : Int} {n : Nat} (h : x < (n : Int)) (h2 : -1 ≤ x) : wantV x n = x := by
  unfold wantV
  by_cases e : 0 ≤ x ∧ x < (n : Int)
  · rw [if_pos e]
  · rw [if_neg e]; omega
/-- Is j near: all of the first k that are over i are over j. -/
def NearK (g : Nat → List Nat) (i j k : Nat) : Prop := ∀ m, m < k → m = i ∨ ¬ LT.Ov g m i ∨ LT.Ov g m j
theorem nearK_succ (g : Nat → List Nat) (i j k : Nat) : NearK g i j (k + 1) ↔ NearK g i j k ∧ (k = i ∨ ¬ LT.Ov g k i ∨ LT.Ov g k j) := by
  constructor
  · intro h; exact ⟨fun m hm => h m (by omega), h k (by omega)⟩
  · rintro ⟨h1, h2⟩ m hm
    by_cases e : m = k
    · subst e; exact h2
    · exact h1 m (by omega)
theorem TB.at2 {w : World} {base n k g0 o0 c : Nat} {g : Nat → List Nat} {qs : List Nat} (h : TB w base g n k (.slice (some ⟨g0, o0, none⟩) k c) qs) {a b : Nat} (ha : a < k) (hb : b < n) :
    ∃ qa rb, w.cell? ⟨g0, o0 + a, none⟩ = some (.slice (some ⟨qa, 0, none⟩) n n) ∧ w.cell? ⟨qa, b, none⟩ = some (.bool rb) ∧ (rb = true ↔ LT.Ov g a b) := by
  obtain ⟨qa, hqa⟩ : ∃ x, qs[a]? = some x := ⟨_, List.getElem?_eq_getElem (by rw [h.len]; exact ha)⟩
  obtain ⟨_, row, hrow, hrl, hrv⟩ := h.at_ a qa hqa
  have hrr := h.row
  refine ⟨qa, tr row b, ?_, seen_tr hrow hrl hb, hrv b hb⟩
  exact hrr.cell a (rowV n qa) (by rw [List.getElem?_map, hqa]; rfl)
set_option maxHeartbeats 2000000 in
theorem ups_far (N : Nat) (A : Option Addr) (c : Nat) (es : List (Nat × Nat)) (W : World) (hl : ¬ es.length ≤ 40) :
    Calls Try.prog 5 #[.agg #[.int .u8 N, .slice A es.length c]] W fun e W' => e = .returned (.bool true) ∧ Below W.heap.size W W' := by
  go_enter Try.func5, Try.ntmps5
  go_wp2_with fail
  generalize hX : World.alloc W _ = X
  obtain ⟨hx, hbx, hz⟩ := boxed hX rfl
  have HX := Lib.hid (And.intro hx (And.intro hbx hz))
  clear hX hx hbx hz
  refine (awake8 X).mono ?_
  rintro e W1 ⟨rfl, hb⟩
  have H1 := Lib.hid (And.intro ((hb.block _ (lt_blk HX.out.1)).trans HX.out.1) (below_two HX.out.2.1 hb))
  clear hb HX
  have x0 := cell_of_blk _ _ _ _ _ H1.out.1 0
  have x1 := cell_of_blk _ _ _ _ _ H1.out.1 1
  simp at x0 x1
  go_wp2_with fail
  clear x0 x1
  refine (light_calls7 N A es.length c W1).mono ?_
  rintro e W2 ⟨rfl, hb⟩
  have hbel := below_two H1.out.2 hb
  rw [decide_eq_false hl]
  clear hb H1
  go_wp2_with fail
  go_ret
  exact ⟨rfl, hbel⟩
set_option maxRecDepth 100000 in
set_option maxHeartbeats 8000000 in
theorem ups_near (N : Nat) (A : Option Addr) (c : Nat) (es : List (Nat × Nat)) (W : World) (hN : N ≤ 255) (hA : Edges W A es) (hc : es.length ≤ c) (hl : es.length ≤ 40) :
    Calls Try.prog 5 #[.agg #[.int .u8 N, .slice A es.length c]] W fun e W' => e = .returned (.bool true) ∧ Below W.heap.size W W' := by
  have HA := Lib.hid (And.intro hA hc)
  clear hA hc
  obtain ⟨n, hn⟩ : ∃ n, 1 + N % 12 = n := ⟨_, rfl⟩
  have hn0 : 0 < n := by omega
  have hn12 : n ≤ 12 := by omega
  have HN := Lib.hid hn
  clear hn
  go_enter Try.func5, Try.ntmps5
  go_wp2_with fail
  generalize hX : World.alloc W _ = X
  obtain ⟨hx, hbx, hz⟩ := boxed hX rfl
  have HX := Lib.hid (And.intro hx (And.intro hbx hz))
  clear hX hx hbx hz
  refine (awake8 X).mono ?_
  rintro e W1 ⟨rfl, hb⟩
  have H1 := Lib.hid (And.intro ((hb.block _ (lt_blk HX.out.1)).trans HX.out.1) (below_two HX.out.2.1 hb))
  clear hb HX
  have x0 := cell_of_blk _ _ _ _ _ H1.out.1 0
  have x1 := cell_of_blk _ _ _ _ _ H1.out.1 1
  simp at x0 x1
  go_wp2_with fail
  clear x0 x1
  refine (light_calls7 N A es.length c W1).mono ?_
  rintro e W2 ⟨rfl, hb⟩
  have H2 := Lib.hid (And.intro ((hb.block _ (lt_blk H1.out.1)).trans H1.out.1) (below_two H1.out.2 hb))
  rw [decide_eq_true hl]
  clear hb H1
  have x0 := cell_of_blk _ _ _ _ _ H2.out.1 0
  have x1 := cell_of_blk _ _ _ _ _ H2.out.1 1
  simp at x0 x1
  go_wp2_with fail
  clear x0 x1
  have hsc := small_calls N hN A c es W2 (HA.out.1.later H2.out.2) HA.out.2 (by omega)
  rw [HN.out] at hsc
  have HSC := Lib.hid hsc
  clear hsc
  refine HSC.out.mono ?_
  rintro e W3 ⟨gv, q, vs, S, rfl, hg, hm, hap, hb3⟩
  have hrw := graph_rows n hn0 es
  have htw := graph_twin n hn0 es
  generalize graphB n es = b at *
  generalize graphA n es = a at *
  obtain ⟨q1, p1, rfl⟩ := hg.form
  rw [hrw.lb] at hg ⊢
  have HG := Lib.hid (And.intro (hg.lower H2.out.2.size) (And.intro (hm.lower H2.out.2.size) (And.intro (below_two H2.out.2 hb3) (And.intro hrw htw))))
  clear hg hm hap hb3 hrw htw HSC H2
  go_wp2_with fail
  generalize hX : World.alloc W3 _ = X
  obtain ⟨hx, hbx, hz⟩ := boxed hX rfl
  have hlb := HG.out.2.2.2.1.lb
  have hfew : Few b := HG.out.2.2.2.1.fewOf (by omega)
  have hbl : ∀ (i : Nat) (l : List Nat), b[i]? = some l → l.length ≤ 1048575 := fun i l hi => by have := (HG.out.2.2.2.1.few i l hi).1; omega
  have hal : ∀ (i : Nat) (l : List Nat), a[i]? = some l → l.length ≤ 1048575 := fun i l hi => by have := (HG.out.2.2.2.1.fewA i l hi).1; omega
  have hof := of_calls hn0 (by omega) X (HG.out.1.later hbx) hlb hfew HG.out.2.2.2.2 hbl hal (below_two HG.out.2.2.1 hbx).size
  have HOF := Lib.hid hof
  have HF := Lib.hid (And.intro hlb (And.intro hfew hbl))
  have HX := Lib.hid (And.intro (HG.out.2.1.later hbx) (below_two HG.out.2.2.1 hbx))
  clear hX hx hbx hz hlb hfew hbl hal hof HG
  refine HOF.out.mono ?_
  rintro e Y ⟨qu, qb, qd, ts, up, deep, rfl, htr, hdt, hb⟩
  unfold treeV
  have HY := Lib.hid (And.intro htr (And.intro hdt (And.intro (below_two HX.out.2 hb) (HX.out.1.later hb))))
  clear htr hdt hb HOF HX
  go_wp2_with fail
  generalize hZ : World.alloc Y _ = Z
  obtain ⟨hz, hbz, hzz⟩ := boxed hZ rfl
  obtain ⟨T, hT⟩ : ∃ k, Y.heap.size = k := ⟨_, rfl⟩
  have htab := table_calls (HY.out.2.2.2.later hbz) HF.out.2.1 HF.out.1 HF.out.2.2 (fun i _ => wayO_neg)
  have HTAB := Lib.hid htab
  have HZ := Lib.hid (And.intro (HY.out.1.later hbz) (And.intro (below_two HY.out.2.2.1 hbz) (hT ▸ hz)))
  have HDT := Lib.hid HY.out.2.1
  rw [hT]
  clear hZ hz hbz hzz hT htab HY
  refine HTAB.out.mono ?_
  rintro e V ⟨A2, c2, qs, rfl, htb, hb⟩
  have HV := Lib.hid (And.intro (HZ.out.1.later hb) (And.intro (below_two HZ.out.2.1 hb) (And.intro ((hb.block _ (lt_blk HZ.out.2.2)).trans HZ.out.2.2) htb)))
  clear htb hb HZ HTAB
  obtain ⟨g0, o0, rfl⟩ : ∃ g o, A2 = some ⟨g, o, none⟩ := by
    rcases HV.out.2.2.2.row with ⟨h1, h2⟩ | ⟨g, o, cap, cur, h1, _⟩
    · have h3 : qs = [] := by simpa using h2
      have h4 := HV.out.2.2.2.len
      rw [h3] at h4
      simp at h4
      omega
    · injection h1 with h1; exact ⟨g, o, h1⟩
  go_wp2_with fail
  go_loopw [31] (fun v wr => ∃ i : Nat, v = .int .i64 (i : Int) ∧ Hid (i ≤ n ∧ Below V.heap.size V wr)) (fun v _ => n - (intOf v).toNat)
  case atStart => exact ⟨0, rfl, Lib.hid ⟨Nat.zero_le _, Below.refl _ _⟩⟩
  case round =>
    obtain ⟨wo, rfl⟩ : ∃ x : World, x = wr := ⟨_, rfl⟩
    obtain ⟨i, rfl, HI⟩ := hrel
    by_cases hi : i < n
    · have pp1 : ((i : Int) < (n : Int)) = True := eq_true (by omega)
      have i0 : 0 ≤ (i : Int) := by omega
      have i1 : (i : Int) < (n : Int) := by omega
      obtain ⟨x, hx, hx1, hx2, hx3⟩ := HDT.out.val hi
      have HX2 := Lib.hid (And.intro hx (And.intro hx1 (And.intro hx2 hx3)))
      clear hx hx1 hx2 hx3
      go_wp2_with fail
      go_loopw [36, 8] (fun v t wr => ∃ j : Nat, v = .int .i64 (j : Int) ∧ t = .int .i64 (wantV x j) ∧ Hid (j ≤ n ∧ Below V.heap.size V wr)) (fun v _ _ => n - (intOf v).toNat)
      case atStart => exact ⟨0, rfl, by rw [wantV_zero], Lib.hid ⟨Nat.zero_le _, HI.out.2⟩⟩
      case round =>
        obtain ⟨wq, rfl⟩ : ∃ x : World, x = wr := ⟨_, rfl⟩
        obtain ⟨j, rfl, rfl, HJ⟩ := hrel
        by_cases hj : j < n
        · have pp2 : ((j : Int) < (n : Int)) = True := eq_true (by omega)
          have j0 : 0 ≤ (j : Int) := by omega
          have j1 : (j : Int) < (n : Int) := by omega
          by_cases hji : j = i
          · have qq : ((j : Int) != (i : Int)) = false := by rw [hji]; simp
            have HM := Lib.hid (show wantV x (j + 1) = wantV x j from wantV_miss (fun e => ((HX2.out.2.2.2 j).2 e).1 hji))
            clear hji
            go_wp2_with fail
            go_roundw
            case rel => exact ⟨j + 1, by go_num, by rw [HM.out], Lib.hid ⟨by omega, HJ.out.2⟩⟩
            case measure => simp [intOf]; omega
          · have qq : ((j : Int) != (i : Int)) = true := by simp; omega
            obtain ⟨qa, rb, ca, cb, hrb⟩ := (HV.out.2.2.2.later HJ.out.2).at2 hj hi
            have HR := Lib.hid (And.intro hrb hji)
            clear hrb hji
            cases rb
            · have HM := Lib.hid (show wantV x (j + 1) = wantV x j from wantV_miss (fun e => by
                have := HR.out.1.2 ((HX2.out.2.2.2 j).2 e).2.1
                cases this))
              go_wp2_with fail
              go_roundw
              case rel => exact ⟨j + 1, by go_num, by rw [HM.out], Lib.hid ⟨by omega, HJ.out.2⟩⟩
              case measure => simp [intOf]; omega
            · go_wp2_with fail
              clear qq ca cb
              go_loopw [53, 10] (fun v m wr => ∃ (k : Nat) (r : Bool), v = .int .i64 (k : Int) ∧ m = .bool r ∧ Hid (k ≤ n ∧ (r = true ↔ NearK (nb b) i j k) ∧ Below V.heap.size V wr)) (fun v _ _ => n - (intOf v).toNat)
              case atStart => exact ⟨0, true, rfl, rfl, Lib.hid ⟨Nat.zero_le _, by simp [NearK], HJ.out.2⟩⟩
              case round =>
                obtain ⟨ws, rfl⟩ : ∃ x : World, x = wr := ⟨_, rfl⟩
                obtain ⟨k, r, rfl, rfl, HK⟩ := hrel
                by_cases hk : k < n
                · have pp3 : ((k : Int) < (n : Int)) = True := eq_true (by omega)
                  have k0 : 0 ≤ (k : Int) := by omega
                  have k1 : (k : Int) < (n : Int) := by omega
                  cases r
                  · have HN2 := Lib.hid (show (false = true ↔ NearK (nb b) i j (k + 1)) by rw [nearK_succ, ← HK.out.2.1]; simp)
                    go_wp2_with fail
                    go_roundw
                    case rel => exact ⟨k + 1, false, by go_num, rfl, Lib.hid ⟨by omega, HN2.out, HK.out.2.2⟩⟩
                    case measure => simp [intOf]; omega
                  · by_cases hki : k = i
                    · have qq : ((k : Int) == (i : Int)) = true := by simp [hki]
                      have HN2 := Lib.hid (show (true = true ↔ NearK (nb b) i j (k + 1)) by rw [nearK_succ, ← HK.out.2.1]; simp [hki])
                      clear hki
                      go_wp2_with fail
                      go_roundw
                      case rel => exact ⟨k + 1, true, by go_num, rfl, Lib.hid ⟨by omega, HN2.out, HK.out.2.2⟩⟩
                      case measure => simp [intOf]; omega
                    · have qq : ((k : Int) == (i : Int)) = false := beq_eq_false_iff_ne.mpr (by omega)
                      obtain ⟨qk, rk, ca, cb, hrk⟩ := (HV.out.2.2.2.later HK.out.2.2).at2 hk hi
                      obtain ⟨qk2, rk2, ca2, cb2, hrk2⟩ := (HV.out.2.2.2.later HK.out.2.2).at2 hk hj
                      obtain rfl : qk = qk2 := by rw [ca] at ca2; simpa using ca2
                      have HRK := Lib.hid (And.intro hrk (And.intro hrk2 hki))
                      clear hrk hrk2 hki ca2
                      cases rk
                      · have HN2 := Lib.hid (show (true = true ↔ NearK (nb b) i j (k + 1)) by
                          rw [nearK_succ, ← HK.out.2.1]
                          simp
                          exact .inr (.inl (fun e => by have := HRK.out.1.2 e; cases this)))
                        go_wp2_with fail
                        go_roundw
                        case rel => exact ⟨k + 1, true, by go_num, rfl, Lib.hid ⟨by omega, HN2.out, HK.out.2.2⟩⟩
                        case measure => simp [intOf]; omega
                      · have HN2 := Lib.hid (show (rk2 = true ↔ NearK (nb b) i j (k + 1)) by
                          rw [nearK_succ, ← HK.out.2.1]
                          have h1 := HRK.out.1.1 rfl
                          have h2 := HRK.out.2.1
                          have h3 := HRK.out.2.2
                          simp [h1, h2, h3])
                        go_wp2_with fail
                        go_roundw
                        case rel => exact ⟨k + 1, rk2, by go_num, rfl, Lib.hid ⟨by omega, HN2.out, HK.out.2.2⟩⟩
                        case measure => simp [intOf]; omega
                · obtain rfl : n = k := by have := HK.out.1; omega
                  have pp3 : ((n : Int) < (n : Int)) = False := eq_false (by omega)
                  have HO := Lib.hid (show (r = true ↔ x = (j : Int)) by
                    rw [HK.out.2.1, ← HX2.out.2.2.2 j]
                    exact ⟨fun e => ⟨HR.out.2, HR.out.1.1 trivial, e⟩, fun e => e.2.2⟩)
                  cases r
                  · have HM := Lib.hid (show wantV x (j + 1) = wantV x j from wantV_miss (fun e => by have := HO.out.2 e; cases this))
                    go_wp2_with fail
                    go_roundw
                    case rel => exact ⟨j + 1, by go_num, by rw [HM.out], Lib.hid ⟨by omega, HK.out.2.2⟩⟩
                    case measure => simp [intOf]; omega
                  · have HM := Lib.hid (show wantV x (j + 1) = (j : Int) from wantV_hit (HO.out.1 rfl))
                    go_wp2_with fail
                    go_roundw
                    case rel => exact ⟨j + 1, by go_num, by rw [HM.out], Lib.hid ⟨by omega, HK.out.2.2⟩⟩
                    case measure => simp [intOf]; omega
        · obtain rfl : n = j := by have := HJ.out.1; omega
          have pp2 : ((n : Int) < (n : Int)) = False := eq_false (by omega)
          rw [wantV_full HX2.out.2.1 HX2.out.2.2.1]
          have qq : (x != x) = false := by simp
          have hTr := (HJ.out.2.block _ (lt_blk HV.out.2.2.1)).trans HV.out.2.2.1
          have x0 := cell_of_blk _ _ _ _ _ hTr 0
          have x1 := cell_of_blk _ _ _ _ _ hTr 1
          have x2 := cell_of_blk _ _ _ _ _ hTr 2
          simp at x0 x1 x2
          clear hTr
          go_wp2_with fail
          clear x0 x1 x2
          refine (up_in (HV.out.1.later HJ.out.2) i x HX2.out.1 hi).mono ?_
          rintro e W_U1 ⟨rfl, hb1⟩
          have HU1 := Lib.hid (below_two HJ.out.2 hb1)
          clear hb1
          go_wp2_with fail
          go_roundw
          case rel => exact ⟨i + 1, by go_num, Lib.hid ⟨by omega, HU1.out⟩⟩
          case measure => simp [intOf]; omega
    · obtain rfl : n = i := by have := HI.out.1; omega
      have pp1 : ((n : Int) < (n : Int)) = False := eq_false (by omega)
      go_wp2_with fail
      clear pp1
      go_loopw [93] (fun v wr => ∃ i : Nat, v = .int .i64 (i : Int) ∧ Hid (i ≤ n ∧ Below V.heap.size V wr)) (fun v _ => n - (intOf v).toNat)
      case atStart => exact ⟨0, rfl, Lib.hid ⟨Nat.zero_le _, HI.out.2⟩⟩
      case round =>
        obtain ⟨Y, rfl⟩ : ∃ x : World, x = wr := ⟨_, rfl⟩
        obtain ⟨i, rfl, HJ⟩ := hrel
        by_cases hi : i < n
        · have pp1 : ((i : Int) < (n : Int)) = True := eq_true (by omega)
          go_wp2_with fail
          clear pp1
          go_loopw [98, 13] (fun v u wi => ∃ k : Nat, v = .int .i64 (k : Int) ∧ Hid (k ≤ n ∧ Below Y.heap.size Y wi ∧ RowAt wi Y.heap.size 3 u ((belowOf up k i).map iv))) (fun v _ _ => n - (intOf v).toNat)
          case atStart => exact ⟨0, rfl, Lib.hid ⟨Nat.zero_le _, Below.refl _ _, RowAt.nil _ _ _⟩⟩
          case round =>
            obtain ⟨wi, rfl⟩ : ∃ x : World, x = wr := ⟨_, rfl⟩
            obtain ⟨k, rfl, HK⟩ := hrel
            have HQ := Lib.hid (below_two HJ.out.2 HK.out.2.1)
            by_cases hk : k < n
            · have pp2 : ((k : Int) < (n : Int)) = True := eq_true (by omega)
              obtain ⟨xk, hxk, _, _, _⟩ := HDT.out.val hk
              have HXK := Lib.hid hxk
              clear hxk
              have hTr := (HQ.out.block _ (lt_blk HV.out.2.2.1)).trans HV.out.2.2.1
              have x0 := cell_of_blk _ _ _ _ _ hTr 0
              have x1 := cell_of_blk _ _ _ _ _ hTr 1
              have x2 := cell_of_blk _ _ _ _ _ hTr 2
              simp at x0 x1 x2
              clear hTr
              go_wp2_with fail
              clear x0 x1 x2
              refine (up_in (HV.out.1.later HQ.out) k xk HXK.out hk).mono ?_
              rintro e W1 ⟨rfl, hb1⟩
              have hbY := below_two HK.out.2.1 hb1
              have hrw := HK.out.2.2.only (Only.of_below hb1) (fun g hg e => by have := (HK.out.2.2.lt hg).1; omega)
              by_cases hmem : xk = (i : Int)
              · have qq : (xk == (i : Int)) = true := by simp [hmem]
                have HM := Lib.hid (show belowOf up (k + 1) i = belowOf up k i ++ [k] by rw [belowOf_succ, if_pos (by rw [HXK.out, hmem])])
                obtain ⟨A3, m3, c3, rfl⟩ : ∃ A m c, u13 = .slice A m c := (rowAt_slice hrw).elim fun A h => h.elim fun c h => ⟨A, _, c, h.1⟩
                obtain ⟨v', w5, hr, j1, j2, j3⟩ := row_append (w := W1.alloc (.cells #[.int .i64 (k : Int)] 3)) (base := Y.heap.size) (v := .slice A3 m3 c3) (l := belowOf up k i) (hrw.only (Only.alloc (fun _ => False) _ _) (fun _ _ e => e)) ⟨W1.heap.size, 0, none⟩ k (by
                  have := cell_of_blk (W1.alloc (.cells #[.int .i64 (k : Int)] 3)) W1.heap.size _ _ _ (heap_alloc_new' W1 _) 0
                  exact this) (by have := hbY.size; simp; omega) (by have := belowOf_len up k i; omega)
                have hb5 : Below Y.heap.size Y w5 := hbY.trans (((Only.alloc (fun g => (Value.slice A3 m3 c3).ownBlock = some g) _ _).trans j2 (fun _ _ e => e)).below hbY.size (fun g hg e => by have := (hrw.lt e).2; omega))
                have HRN := Lib.hid hr
                have HE := Lib.hid (And.intro hb5 j1)
                clear hmem hr j1 j2 j3 hb5 hbY hrw hb1
                go_wp2_with (first | (at_builtin; refine Lib.wpList_append_run _ rfl _ _ _ _ rfl _ _ rfl rfl _ _ HRN.out ?_) | fail)
                go_roundw
                case rel => exact ⟨k + 1, by go_num, Lib.hid ⟨by omega, HE.out.1, by rw [HM.out]; exact HE.out.2⟩⟩
                case measure => simp [intOf]; omega
              · have qq : (xk == (i : Int)) = false := beq_eq_false_iff_ne.mpr hmem
                have HM := Lib.hid (show belowOf up (k + 1) i = belowOf up k i by rw [belowOf_succ, if_neg (by rw [HXK.out]; exact fun e => hmem (Option.some.inj e))])
                have HE := Lib.hid (And.intro hbY hrw)
                clear hmem hbY hrw hb1
                go_wp2_with fail
                go_roundw
                case rel => exact ⟨k + 1, by go_num, Lib.hid ⟨by omega, HE.out.1, by rw [HM.out]; exact HE.out.2⟩⟩
                case measure => simp [intOf]; omega
            · obtain rfl : n = k := by have := HK.out.1; omega
              have pp2 : ((n : Int) < (n : Int)) = False := eq_false (by omega)
              obtain ⟨A3, m3, c3, rfl⟩ : ∃ A m c, u13 = .slice A m c := (rowAt_slice HK.out.2.2).elim fun A h => h.elim fun c h => ⟨A, _, c, h.1⟩
              have hTr := (HQ.out.block _ (lt_blk HV.out.2.2.1)).trans HV.out.2.2.1
              have x0 := cell_of_blk _ _ _ _ _ hTr 0
              have x1 := cell_of_blk _ _ _ _ _ hTr 1
              have x2 := cell_of_blk _ _ _ _ _ hTr 2
              simp at x0 x1 x2
              clear hTr
              go_wp2_with fail
              clear x0 x1 x2
              refine (below_in (HV.out.1.later HQ.out) i hi (by omega)).mono ?_
              rintro e W1 ⟨A4, c4, rfl, hrow, hb1⟩
              have HB1 := Lib.hid (And.intro hrow (And.intro (HK.out.2.2.only (Only.of_below hb1) (fun g hg e => by have := (HK.out.2.2.lt hg).1; omega)) (below_two HQ.out hb1)))
              clear hrow hb1
              go_wp2_with fail
              refine (equalG HB1.out.1 HB1.out.2.1).mono ?_
              rintro e W2 ⟨rfl, hb2⟩
              rw [decide_eq_true rfl]
              have HB2 := Lib.hid (below_two HB1.out.2.2 hb2)
              clear hb2
              go_wp2_with fail
              go_roundw
              case rel => exact ⟨i + 1, by go_num, Lib.hid ⟨by omega, HB2.out⟩⟩
              case measure => simp [intOf]; omega
        · obtain rfl : n = i := by have := HJ.out.1; omega
          have pp1 : ((n : Int) < (n : Int)) = False := eq_false (by omega)
          have hTr := (HJ.out.2.block _ (lt_blk HV.out.2.2.1)).trans HV.out.2.2.1
          have x0 := cell_of_blk _ _ _ _ _ hTr 0
          have x1 := cell_of_blk _ _ _ _ _ hTr 1
          have x2 := cell_of_blk _ _ _ _ _ hTr 2
          simp at x0 x1 x2
          clear hTr
          go_wp2_with fail
          clear x0 x1 x2 pp1
          refine (up_out qu qb qd n (-1) (.inl (by decide)) _).mono ?_
          rintro e Z1 ⟨rfl, hb1⟩
          have Q1 := Lib.hid (below_two HJ.out.2 hb1)
          clear hb1
          have hTr := (Q1.out.block _ (lt_blk HV.out.2.2.1)).trans HV.out.2.2.1
          have x0 := cell_of_blk _ _ _ _ _ hTr 0
          have x1 := cell_of_blk _ _ _ _ _ hTr 1
          have x2 := cell_of_blk _ _ _ _ _ hTr 2
          simp at x0 x1 x2
          clear hTr
          go_wp2_with fail
          clear x0 x1 x2
          refine (up_out qu qb qd n (n : Int) (.inr (Int.le_refl _)) _).mono ?_
          rintro e Z2 ⟨rfl, hb1⟩
          have Q2 := Lib.hid (below_two Q1.out hb1)
          clear hb1
          have hTr := (Q2.out.block _ (lt_blk HV.out.2.2.1)).trans HV.out.2.2.1
          have x0 := cell_of_blk _ _ _ _ _ hTr 0
          have x1 := cell_of_blk _ _ _ _ _ hTr 1
          have x2 := cell_of_blk _ _ _ _ _ hTr 2
          simp at x0 x1 x2
          clear hTr
          go_wp2_with fail
          clear x0 x1 x2
          refine (below_out qu qb qd n (n : Int) (.inr (Int.le_refl _)) _).mono ?_
          rintro e Z3 ⟨rfl, hb1⟩
          have Q3 := Lib.hid (below_two HV.out.2.1 (below_two Q2.out hb1))
          clear hb1
          go_wp2_with fail
          go_ret
          exact ⟨rfl, Q3.out⟩
theorem ups_calls (N : Nat) (A : Option Addr) (c : Nat) (es : List (Nat × Nat)) (W : World) (hN : N ≤ 255) (hA : Edges W A es) (hc : es.length ≤ c) :
    Calls Try.prog 5 #[.agg #[.int .u8 N, .slice A es.length c]] W fun e W' => e = .returned (.bool true) ∧ Below W.heap.size W W' := by
  by_cases hl : es.length ≤ 40
  · exact ups_near N A c es W hN hA hc hl
  · exact ups_far N A c es W hl
end Go.Proofs.Ytnkbbjeepdjamaa
