/- refineryref07.Reach: the walk. Conditions: few places. -/
import Derived.Test.YtnkbbjeepdjamaaGSmall
import Derived.Test.YtnkbbjeepdjamaaGRefP
namespace Go.Proofs.Ytnkbbjeepdjamaa
open Go.RowKit
/-- What Reach gives. -/
def RefPost (w : World) (b : List (List Nat)) (wo : Int) (e : Ending) (w' : World) : Prop :=
  ∃ q s, e = .returned (.slice (some ⟨q, 0, none⟩) b.length b.length) ∧ Seen w' q s ∧ s.length = b.length ∧ (∀ i, i < b.length → (tr s i = true ↔ WayO (nb b) wo i)) ∧ w.heap.size ≤ q ∧ Below w.heap.size w w'
theorem seen_tr {w : World} {q i n : Nat} {s : List Bool} (h : Seen w q s) (hn : s.length = n) (hi : i < n) : w.cell? ⟨q, i, none⟩ = some (.bool (tr s i)) := by
  have := h.cell i (by omega)
  rw [this]
  unfold tr
  rw [List.getD_eq_getElem?_getD, List.getD_eq_getElem?_getD, List.getElem?_eq_getElem (by omega)]; rfl
theorem tr_falses (n i : Nat) : tr (dst0 n).seen i = false := by
  unfold tr dst0
  rw [List.getD_eq_getElem?_getD, List.getElem?_replicate]
  split <;> rfl
theorem wayO_not0 {g : Nat → List Nat} {i : Nat} : ¬ WayO g 0 i := by
  intro h
  induction h with
  | zero h => exact h rfl
  | step _ _ _ ih => exact ih
/-- Beside the loops: the rows lie as they lay. -/
structure RL (w : World) (q1 : Nat) (vs : List Value) (base : Nat) (b : List (List Nat)) (q : Nat) (wr : World) (s : List Bool) : Prop where
  mat : Mat wr base q1 vs b
  seen : Seen wr q s
  ge : w.heap.size ≤ q
  below : Below w.heap.size w wr
  ne : ¬ MatB q1 vs q
theorem RL.set {w : World} {q1 : Nat} {vs : List Value} {base : Nat} {b : List (List Nat)} {q : Nat} {wr : World} {s : List Bool} (h : RL w q1 vs base b q wr s) (c : Nat) : RL w q1 vs base b q (wr.setCell ⟨q, c, none⟩ (.bool true)) (s.set c true) :=
  have ho := Only.setCell wr ⟨q, c, none⟩ (.bool true)
  ⟨h.mat.only ho (fun g hg e => h.ne (by rw [← show g = q from e]; exact hg)), h.seen.set c true, h.ge, h.below.trans (ho.below h.below.size (fun k hk e => by have e : k = q := e; have := h.ge; omega)), h.ne⟩
set_option maxRecDepth 100000 in
set_option maxHeartbeats 4000000 in
theorem ref_calls {w : World} {base q1 : Nat} {vs : List Value} {b : List (List Nat)} (h : Mat w base q1 vs b) (hf : Few b) (hrows : ∀ (i : Nat) (l : List Nat), b[i]? = some l → l.length ≤ 1048575) (wo : Int) :
    Calls Try.prog 55 #[.slice (some ⟨q1, 0, none⟩) b.length b.length, .int .i64 wo] w (RefPost w b wo) := by
  have hn := hf.n
  have hmk := mk_falses b.length (by omega)
  have H := Lib.hid (And.intro h (And.intro hf hrows))
  clear h hf hrows
  by_cases h0 : b.length = 0
  · have HN := Lib.hid h0
    have hmk0 := mk_falses 0 (by omega)
    simp only [Int.cast_ofNat_Int] at hmk0
    have hfin : ∀ X, X = w.alloc (falses 0) → RefPost w b wo (.returned (.slice (some ⟨w.heap.size, 0, none⟩) 0 0)) X := fun X hX => by
      unfold RefPost
      rw [HN.out, hX]
      exact ⟨_, (dst0 0).seen, rfl, falses_seen (heap_alloc_new' w _), rfl, fun i hi => by omega, Nat.le_refl _, (Below.refl _ _).alloc (Nat.le_refl _) _⟩
    rw [h0]
    have HF := Lib.hid hfin
    clear h0 hmk hfin
    go_enter Try.func55, Try.ntmps55
    go_wp2_with fail
    go_ret
    exact HF.out _ rfl
  · have hb0 : ((b.length : Int) == 0) = false := beq_eq_false_iff_ne.mpr (by omega)
    have hb1 : 0 < b.length := by omega
    obtain ⟨X, hX⟩ : ∃ X, w.alloc (falses b.length) = X := ⟨_, rfl⟩
    obtain ⟨hx, hbx, hz⟩ := boxed hX rfl
    have hse : Seen X w.heap.size (dst0 b.length).seen := falses_seen hx
    by_cases hw0 : wo = 0
    · subst hw0
      have hfin : RefPost w b 0 (.returned (.slice (some ⟨w.heap.size, 0, none⟩) b.length b.length)) (w.alloc (falses b.length)) := by
        rw [hX]
        exact ⟨_, _, rfl, hse, by simp [dst0], fun i _ => (by rw [tr_falses]; exact ⟨fun h => absurd h (by simp), fun h => absurd h wayO_not0⟩), Nat.le_refl _, hbx⟩
      have HF := Lib.hid hfin
      clear h0 hfin hse hx hbx hz hX
      go_enter Try.func55, Try.ntmps55
      go_wp2_with fail
      go_ret
      exact HF.out
    · have hw1 : (wo == 0) = false := beq_eq_false_iff_ne.mpr hw0
      have c0 := hse.cell 0 (by simp [dst0]; omega)
      have f0 := hse.frozen 0
      rw [dst0_seen, ← hX] at c0
      rw [← hX] at f0
      have hrs : RS (nb b) wo b.length ((dst0 b.length).seen.set 0 true) := by
        have hl : 0 < (dst0 b.length).seen.length := by simp [dst0]; omega
        refine ⟨by simp [dst0], fun i hi => ?_, by rw [tr_set hl]; simp⟩
        rw [tr_set hl, tr_falses] at hi
        simp at hi; subst hi
        exact .zero hw0
      have hrl : RL w q1 vs base b w.heap.size (X.setCell ⟨w.heap.size, 0, none⟩ (.bool true)) ((dst0 b.length).seen.set 0 true) := by
        have h1 : RL w q1 vs base b w.heap.size X (dst0 b.length).seen := ⟨H.out.1.later hbx, hse, Nat.le_refl _, hbx, fun e => by have := (H.out.1.lt e).1; omega⟩
        exact h1.set 0
      have hcnt : 1 ≤ cnt ((dst0 b.length).seen.set 0 true) := by
        have := (cnt_mono (s := List.replicate b.length false) (t := (dst0 b.length).seen.set 0 true) (by simp [dst0]) (fun i hi => by have := tr_falses b.length i; unfold dst0 at this; rw [this] at hi; cases hi)).2 ⟨0, hrs.zero, tr_falses b.length 0⟩
        omega
      have HS := Lib.hid (And.intro hrs (And.intro hrl (And.intro hcnt hX)))
      have hd0 : decide (¬ 0 < b.length) = false := decide_eq_false (by omega)
      rw [hd0] at c0
      clear h0 hse hx hbx hz hX hrs hrl hcnt hw0 hd0
      go_enter Try.func55, Try.ntmps55
      go_wp2_with fail
      rw [HS.out.2.2.2]
      generalize hY : World.setCell X _ _ = Y
      rw [hY] at HS
      clear c0 f0 hY
      go_loopw [6] (fun v wr => ∃ k : Nat, v = .int .i64 (k : Int) ∧ Hid (k ≤ b.length ∧ ∃ s, RL w q1 vs base b w.heap.size wr s ∧ RS (nb b) wo b.length s ∧ (Closed (nb b) wo s ∨ k + 1 ≤ cnt s))) (fun v _ => b.length - (intOf v).toNat)
      case atStart => exact ⟨0, rfl, Lib.hid ⟨Nat.zero_le _, _, HS.out.2.1, HS.out.1, .inr HS.out.2.2.1⟩⟩
      case round =>
        obtain ⟨k, rfl, HI⟩ := hrel
        obtain ⟨hk0, s0, hrl, hrs, hcl⟩ := HI.out
        have HK := Lib.hid (And.intro hrl (And.intro hrs hcl))
        clear HI hrl hrs hcl HS
        by_cases hk : k < b.length
        · have pp1 : ((k : Int) < (b.length : Int)) = True := eq_true (by omega)
          obtain ⟨wo1, rfl⟩ : ∃ wo1 : World, wo1 = wr := ⟨_, rfl⟩
          go_wp2_with fail
          clear pp1
          go_loopw [7] (fun v wi => ∃ i : Nat, v = .int .i64 (i : Int) ∧ Hid (i ≤ b.length ∧ ∃ s, RL w q1 vs base b w.heap.size wi s ∧ Rnd (nb b) wo b.length s0 s i 0)) (fun v _ => b.length - (intOf v).toNat)
          case atStart => exact ⟨0, rfl, Lib.hid ⟨Nat.zero_le _, s0, HK.out.1, Rnd.start HK.out.2.1⟩⟩
          case round =>
            obtain ⟨i, rfl, HI⟩ := hrel
            obtain ⟨hi0, s, hrl, hrn⟩ := HI.out
            clear HI
            by_cases hi : i < b.length
            · have pp1 : ((i : Int) < (b.length : Int)) = True := eq_true (by omega)
              have q0 : 0 ≤ (i : Int) := by omega
              have q2 : (i : Int) < (b.length : Int) := by omega
              have hsc := seen_tr hrl.seen hrn.rs.len hi
              by_cases ht : tr s i = true
              · rw [ht] at hsc
                obtain ⟨rv, l, hrv, hl, hr⟩ := hrl.mat.get hi
                obtain ⟨A, c, rfl, _, _, _⟩ := rowAt_slice hr
                rw [List.length_map] at hr hrv
                have hll : l.length ≤ 1048575 := H.out.2.2 i l hl
                have hnb : nb b i = l := by unfold nb; rw [List.getD_eq_getElem?_getD, hl]; rfl
                have HL := Lib.hid (And.intro hrl (And.intro hrn (And.intro ht (And.intro hrv (And.intro hl (And.intro hr hnb))))))
                have hc := hrl.mat.cell i
                rw [hrv] at hc
                obtain ⟨wo2, rfl⟩ : ∃ wo2 : World, wo2 = wr := ⟨_, rfl⟩
                clear hrl hrn ht hrv hl hr hnb
                go_wp2_with fail
                clear hc hsc pp1
                go_loopw [8] (fun v wi => ∃ j : Nat, v = .int .i64 (j : Int) ∧ Hid (j ≤ l.length ∧ ∃ s, RL w q1 vs base b w.heap.size wi s ∧ Rnd (nb b) wo b.length s0 s i j ∧ tr s i = true)) (fun v _ => l.length - (intOf v).toNat)
                case atStart => exact ⟨0, rfl, Lib.hid ⟨Nat.zero_le _, s, HL.out.1, HL.out.2.1, HL.out.2.2.1⟩⟩
                case round =>
                  obtain ⟨j, rfl, HI⟩ := hrel
                  obtain ⟨hj0, s', hrl, hrn, ht⟩ := HI.out
                  clear HI
                  have hc := hrl.mat.cell i
                  rw [HL.out.2.2.2.1] at hc
                  by_cases hj : j < l.length
                  · have pp1 : ((j : Int) < (l.length : Int)) = True := eq_true (by omega)
                    have pp2 : j < l.length := hj
                    obtain ⟨x, hx⟩ : ∃ x, l[j]? = some x := ⟨_, List.getElem?_eq_getElem hj⟩
                    have hxn : x < b.length := H.out.2.1.lt i l HL.out.2.2.2.2.1 x (List.mem_of_getElem? hx)
                    have hr := hrl.mat.row i _ l HL.out.2.2.2.1 HL.out.2.2.2.2.1
                    obtain ⟨g0, o0, rfl⟩ : ∃ g o, A = some ⟨g, o, none⟩ := by
                      rcases hr with ⟨h1, h2⟩ | ⟨g, o, cap, cur, h1, _⟩
                      · have : l = [] := by simpa using h2
                        subst this; simp at hj
                      · injection h1 with h1; exact ⟨g, o, h1⟩
                    have hcx := hr.cell j (iv x) (by rw [List.getElem?_map, hx]; rfl)
                    unfold iv at hcx
                    have q3 : 0 ≤ (x : Int) := by omega
                    have q4 : (x : Int) < (b.length : Int) := by omega
                    have hgx : (nb b i)[j]? = some x := by rw [HL.out.2.2.2.2.2.2]; exact hx
                    by_cases hxw : (x : Int) = wo
                    · have hne : ((x : Int) != wo) = false := by simp [hxw]
                      have HP := Lib.hid (And.intro hrl (And.intro (hrn.pass hgx hxw) ht))
                      clear hrl hrn ht hx hr hgx hxw hj
                      go_wp2_with fail
                      go_roundw
                      case rel => exact ⟨j + 1, by go_num, Lib.hid ⟨by omega, s', HP.out⟩⟩
                      case measure => simp [intOf]; omega
                    · have hne : ((x : Int) != wo) = true := bne_iff_ne.mpr hxw
                      have hcs := seen_tr hrl.seen hrn.rs.len hxn
                      have hfs := hrl.seen.frozen x
                      have hput := hrn.put ht hgx hxw hxn
                      have ht' : tr (s'.set x true) i = true := by rw [tr_set (by rw [hrn.rs.len]; exact hxn), ht]; simp
                      have HP := Lib.hid (And.intro (hrl.set x) (And.intro hput ht'))
                      clear hrl hrn ht hx hr hgx hxw hj hput ht'
                      go_wp2_with fail
                      go_roundw
                      case rel => exact ⟨j + 1, by go_num, Lib.hid ⟨by omega, _, HP.out⟩⟩
                      case measure => simp [intOf]; omega
                  · have pp1 : ((j : Int) < (l.length : Int)) = False := eq_false (by omega)
                    have pp2 : ¬ j < l.length := hj
                    have HP := Lib.hid (And.intro hrl (hrn.row (by rw [HL.out.2.2.2.2.2.2]; omega)))
                    clear hrl hrn ht hj
                    go_wp2_with fail
                    go_roundw
                    case rel => exact ⟨i + 1, by go_num, Lib.hid ⟨by omega, s', HP.out⟩⟩
                    case measure => simp [intOf]; omega
              · have ht' : tr s i = false := by simpa using ht
                rw [ht'] at hsc
                have HP := Lib.hid (And.intro hrl (hrn.skip ht'))
                clear hrl hrn ht ht'
                go_wp2_with fail
                go_roundw
                case rel => exact ⟨i + 1, by go_num, Lib.hid ⟨by omega, s, HP.out⟩⟩
                case measure => simp [intOf]; omega
            · have pp1 : ((i : Int) < (b.length : Int)) = False := eq_false (by omega)
              obtain rfl : i = b.length := by omega
              have hfin := hrn.fin HK.out.2.1.len k HK.out.2.2
              have HP := Lib.hid (And.intro hrl (And.intro hrn.rs hfin))
              clear hrl hrn hfin
              go_wp2_with fail
              go_roundw
              case rel => exact ⟨k + 1, by go_num, Lib.hid ⟨by omega, s, HP.out⟩⟩
              case measure => simp [intOf]; omega
        · have pp1 : ((k : Int) < (b.length : Int)) = False := eq_false (by omega)
          obtain rfl : k = b.length := by omega
          have hfin : RefPost w b wo (.returned (.slice (some ⟨w.heap.size, 0, none⟩) b.length b.length)) wr := ⟨_, s0, rfl, HK.out.1.seen, HK.out.2.1.len, fun i _ => HK.out.2.1.done HK.out.2.2 i, Nat.le_refl _, HK.out.1.below⟩
          have HF := Lib.hid hfin
          clear hfin HK
          go_wp2_with fail
          go_ret
          exact HF.out
end Go.Proofs.Ytnkbbjeepdjamaa
