/- refinerylaw07.GraphOrders' own walk goes depth first. Conditions: few places. -/
import Derived.Test.YtffnkbicbfjnpaaGOrd
import Derived.LoopTactic
namespace Go.Proofs.Ytffnkbicbfjnpaa
open Go.RowKit
namespace OW
set_option maxRecDepth 100000 in
set_option maxHeartbeats 8000000 in
theorem ord_ok {w0 : World} {base q : Nat} {vs : List Value} {b : List (List Nat)} {sq b5 b6 b4 b8 b7 : Nat} (hB : Base w0 base q vs b sq b5 b6 b4 b8 b7) (hf : Few b) : ∀ k, OkW w0 base q vs b sq b5 b6 b4 b8 b7 k
  | 0 => by
    intro v st w S6 S7 hws hv hk
    have := unseen_set hv
    omega
  | k + 1 => by
    have IH := Lib.hid (ord_ok hB hf k)
    intro v st w S6 S7 hws hv hk hp1 hp2
    have hvn : v < b.length := by rw [← hws.len]; exact getD_lt hv
    have hu := unseen_set hv
    have hn := hf.n
    obtain ⟨hm, k5, k4, k8⟩ := hB.at_ hws.only
    obtain ⟨rv, l, hrv, hl, hr⟩ := hm.get hvn
    obtain ⟨A, c, rfl, _, _, _⟩ := rowAt_slice hr
    rw [List.length_map] at hr hrv
    have c0 := hws.seen.cell v (by rw [hws.len]; exact hvn)
    rw [hv] at c0
    have f0 := hws.seen.frozen v
    obtain ⟨v6, j1, j2, j3, j4⟩ := hws.pre.ex
    obtain ⟨A6, m6, c6, rfl⟩ : ∃ A m c, v6 = .slice A m c := (rowAt_slice j2).elim fun A h => h.elim fun c h => ⟨A, _, c, h.1⟩
    have hbw : base ≤ w.heap.size := by have := hB.ge; have := hws.only.size; omega
    -- the first append
    obtain ⟨X, hX⟩ : ∃ X, w.setCell ⟨sq, v, none⟩ (.bool true) = X := ⟨_, rfl⟩
    have hoX : Only (fun g => g = sq) w X := hX ▸ Only.setCell w ⟨sq, v, none⟩ (.bool true)
    have hn6 : ∀ g, S6 g → g ≠ sq := fun g hg => (hws.n6 g hg).2
    have hpX : BoxRow X base b6 st.pre S6 := hws.pre.only hoX (fun g hg e => hn6 g hg e)
    have j1X := (hoX.block b6 (lt_blk j1) (fun e => hn6 b6 ((j4 b6).2 (.inl rfl)) e)).trans j1
    have j2X := j2.only hoX (fun g hg e => hn6 g ((j4 g).2 (.inr hg)) e)
    obtain ⟨v', w1, hr1, r1, r2, r3⟩ := row_append (w := X.alloc (.cells #[.int .i64 (v : Int)] 3)) (base := base) (v := .slice A6 m6 c6) (l := st.pre) (j2X.only (Only.alloc (fun _ => False) _ _) (fun _ _ e => e)) ⟨X.heap.size, 0, none⟩ v (by
      have := cell_of_blk (X.alloc (.cells #[.int .i64 (v : Int)] 3)) X.heap.size _ _ _ (heap_alloc_new' X _) 0
      exact this) (by have := hoX.size; simp; omega) (by omega)
    obtain ⟨A1, m1, c1, rfl⟩ : ∃ A m c, v' = .slice A m c := (rowAt_slice r1).elim fun A h => h.elim fun c h => ⟨A, _, c, h.1⟩
    have ho1 : Only (fun g => (Value.slice A6 m6 c6).ownBlock = some g) X w1 := (Only.alloc _ _ _).trans r2 (fun _ _ e => e)
    have hput := put_final j1X j2X j3 j4 r1 ho1 (r3.imp id (fun ⟨g, a, b⟩ => ⟨g, a, by simp at b; omega⟩))
    have hv6 : (Value.slice A6 m6 c6).ownBlock ≠ some b6 := j2.ne_blk j1 (by decide)
    have d6 : X.cell? ⟨b6, 0, none⟩ = some (.slice A6 m6 c6) := cell_of_blk _ _ _ _ _ j1X 0
    have d6' : w1.cell? ⟨b6, 0, none⟩ = some (.slice A6 m6 c6) := (ho1.cell (p := ⟨b6, 0, none⟩) (lt_blk j1X) hv6).trans d6
    have f6' : w1.frozen? ⟨b6, 0, none⟩ = false := (ho1.frozen (p := ⟨b6, 0, none⟩) (lt_blk j1X) hv6).trans (by simp [World.frozen?, j1X])
    obtain ⟨T6, hbr, hon, hnew⟩ := hput
    have hen := hws.enter hB v hbr (by rw [hX]; exact hon) (fun g hg => (hnew g hg).imp id (fun e => by have := hoX.size; omega))
    obtain ⟨hm2, e5, e4, e8⟩ := hB.at_ hen.1.only
    have hc2 := hm2.cell v
    rw [hrv] at hc2
    have hlenl : l.length ≤ maxLen := by
      obtain ⟨A', c', h1, h2, h3, _⟩ := rowAt_slice hr
      rw [List.length_map] at h1 h2
      omega
    simp only [maxLen] at hlenl
    have HCN := Lib.hid (dfsL_count (nb b) k)
    have HEN := Lib.hid hen
    have HW := Lib.hid hws
    have HV := Lib.hid hv
    have HL := Lib.hid (And.intro hrv (And.intro hl hr))
    rw [← hX] at hr1 d6
    have hsz : (w.setCell ⟨sq, v, none⟩ (.bool true)).heap.size = w.heap.size := by simp [World.setCell]
    rw [hsz] at hr1
    have HR1 := Lib.hid hr1
    have hv0 : 0 ≤ (v : Int) := by omega
    have hv1 : (v : Int) < (b.length : Int) := by omega
    clear hws hv hm hrv hl hr j1 j2 j3 j4 hX hoX hn6 hpX j1X j2X hr1 r1 r2 r3 ho1 hbr hon hnew hen hm2 hv6 hbw k4 k8 hsz
    go_enter Try.func44, Try.ntmps44
    go_wp2_with (first | (at_builtin; refine Lib.wpList_append_run _ rfl (.tmp 12) (.tmp 14) _ _ rfl _ _ rfl rfl _ _ HR1.out ?_) | fail)
    generalize hW2 : World.setCell w1 _ _ = W2 at *
    clear hW2 c0 f0 d6 d6' f6' k5 HR1
    clear e5 e4 e8 hc2
    go_loopw [21] (fun i wr => ∃ j : Nat, i = .int .i64 (j : Int) ∧ Hid (j ≤ l.length ∧ ∃ U6 U7, QS w0 base q vs b sq b5 b6 b4 b8 b7 wr (dfsL (nb b) k (l.take j) (st.enter v)) U6 U7 ∧ Stp sq W2 T6 S7 wr U6 U7)) (fun i _ => l.length - (intOf i).toNat)
    case atStart => exact ⟨0, rfl, Lib.hid ⟨Nat.zero_le _, T6, S7, by rw [List.take_zero, dfsL_nil]; exact HEN.out.1, Stp.refl _ _ _ _⟩⟩
    case round =>
      obtain ⟨j, rfl, HI⟩ := hrel
      obtain ⟨hj0, U6, U7, hqs, hst⟩ := HI.out
      clear HI
      obtain ⟨hm3, e5, e4, e8⟩ := hB.at_ hqs.only
      have hr3 : RowAt wr base 3 (.slice A l.length c) (l.map iv) := hm3.row v _ l HL.out.1 HL.out.2.1
      have hcn := HCN.out (l.take j) (st.enter v)
      obtain ⟨s, hs⟩ : ∃ s, dfsL (nb b) k (l.take j) (st.enter v) = s := ⟨_, rfl⟩
      rw [hs] at hqs hcn
      have hen : (st.enter v).pre.length + unseen (st.enter v).seen = st.pre.length + unseen st.seen ∧ (st.enter v).post.length + unseen (st.enter v).seen + 1 = st.post.length + unseen st.seen := by
        simp only [DSt.enter, List.length_append, List.length_singleton]; omega
      have hu2 : unseen (st.enter v).seen + 1 = unseen st.seen := hu
      by_cases hj : j < l.length
      · obtain ⟨x, hx⟩ : ∃ x, l[j]? = some x := ⟨_, List.getElem?_eq_getElem hj⟩
        have hxn : x < b.length := hf.lt v l HL.out.2.1 x (List.mem_of_getElem? hx)
        obtain ⟨g0, o0, rfl⟩ : ∃ g o, A = some ⟨g, o, none⟩ := by
          rcases hr3 with ⟨h1, h2⟩ | ⟨g, o, cap, cur, h1, _⟩
          · have : l = [] := by simpa using h2
            subst this; simp at hj
          · injection h1 with h1; exact ⟨g, o, h1⟩
        have hc := hr3.cell j (iv x) (by rw [List.getElem?_map, hx]; rfl)
        have hsc := hqs.seen.cell x (by rw [hqs.len]; exact hxn)
        have pp1 : ((j : Int) < (l.length : Int)) = True := eq_true (by omega)
        have q0 : 0 ≤ (x : Int) := by omega
        have q2 : (x : Int) < (b.length : Int) := by omega
        have hsn : dfsL (nb b) k (l.take (j + 1)) (st.enter v) = if s.seen.getD x true = true then s else dfs (nb b) k x s := by rw [take_snoc' l j x hx, dfsL_snoc, hs]
        have HSN := Lib.hid hsn
        have HC3 := Lib.hid (And.intro hqs (And.intro hst hcn))
        have HE := Lib.hid (And.intro hen hu2)
        unfold iv at hc
        unfold clo at e8
        by_cases hsx : s.seen.getD x true = true
        · rw [hsx] at hsc
          have HX := Lib.hid hsx
          clear hsn hqs hst hcn hen hu2 hx hs hsx hm3 hr3 e4
          go_wp2_with fail
          go_roundw
          case rel => exact ⟨j + 1, by go_num, Lib.hid ⟨by omega, U6, U7, by rw [HSN.out, if_pos HX.out]; exact HC3.out.1, HC3.out.2.1⟩⟩
          case measure => simp [intOf]; omega
        · have hsx' : s.seen.getD x true = false := by simpa using hsx
          rw [hsx'] at hsc
          have HX := Lib.hid (And.intro hsx hsx')
          clear hsn hqs hst hcn hen hu2 hx hs hsx hsx' hm3 hr3 e4
          go_wp2_with fail
          refine (IH.out x s wr U6 U7 HC3.out.1 HX.out.2 (by have h1 := HC3.out.2.2.2.2.1; have h2 := HE.out.2; omega) (by have := HC3.out.2.2.1; have := HE.out.1.1; omega) (by have := HC3.out.2.2.2.1; have := HE.out.1.2; omega)).mono ?_
          rintro e w4 ⟨rfl, V6, V7, hw4, ho4⟩
          have HR4 := Lib.hid (And.intro hw4 ho4)
          clear hw4 ho4 hc hsc e5 e8
          go_wp2_with fail
          go_roundw
          case rel => exact ⟨j + 1, by go_num, Lib.hid ⟨by omega, V6, V7, by rw [HSN.out, if_neg HX.out.1]; exact HR4.out.1, HC3.out.2.1.trans HR4.out.2⟩⟩
          case measure => simp [intOf]; omega
      · obtain rfl : j = l.length := by omega
        have pp1 : ((l.length : Int) < (l.length : Int)) = False := eq_false (by omega)
        rw [List.take_length] at hs
        obtain ⟨v7, j1, j2, j3, j4⟩ := hqs.post.ex
        obtain ⟨A7, m7, c7, rfl⟩ : ∃ A m c, v7 = .slice A m c := (rowAt_slice j2).elim fun A h => h.elim fun c h => ⟨A, _, c, h.1⟩
        have hgew : base ≤ wr.heap.size := by have := hB.ge; have := hqs.only.size; omega
        obtain ⟨v', w5, hr5, r1, r2, r3⟩ := row_cons (x := v) j2 (by rw [List.length_reverse]; have h1 := hcn.2.1; have h2 := hen.2; omega) hgew
        obtain ⟨A1', m1', c1', rfl⟩ : ∃ A m c, v' = .slice A m c := (rowAt_slice r1).elim fun A h => h.elim fun c h => ⟨A, _, c, h.1⟩
        obtain ⟨T7, p1, p2, p3⟩ := box_put hqs.post r2 r1 r3
        have hlv := hqs.leave hB v p1 p2 p3
        have hnbv : nb b v = l := by unfold nb; rw [List.getD_eq_getElem?_getD, HL.out.2.1]; rfl
        have hend : OPost w0 base q vs b sq b5 b6 b4 b8 b7 w S6 S7 (dfs (nb b) (k + 1) v st) (w5.setCell ⟨b7, 0, none⟩ (.slice A1' m1' c1')) := by
          refine ⟨U6, T7, ?_, (HEN.out.2.trans hst).trans hlv.2⟩
          rw [dfs_succ, hnbv, hs]
          exact hlv.1
        have d7 : wr.cell? ⟨b7, 0, none⟩ = some (.slice A7 m7 c7) := cell_of_blk _ _ _ _ _ j1 0
        have d7' := (r2.cell (p := ⟨b7, 0, none⟩) (lt_blk j1)).trans d7
        have f7' : w5.frozen? ⟨b7, 0, none⟩ = false := (r2.frozen (p := ⟨b7, 0, none⟩) (lt_blk j1)).trans (by simp [World.frozen?, j1])
        have HEND := Lib.hid hend
        have HR5 := Lib.hid hr5
        have hlt7 := lt_blk j1
        clear hqs hst hcn hen hu2 hs hm3 hr3 e4 e5 e8 j1 j2 j3 j4 hgew hr5 r1 r2 r3 p1 p2 p3 hlv hnbv hend
        go_wp2_with (first | (at_builtin; refine Lib.wpList_append_run _ rfl _ _ _ _ rfl _ _ rfl rfl _ _ HR5.out ?_) | fail)
        go_end0
        exact ⟨rfl, HEND.out⟩
end OW
end Go.Proofs.Ytffnkbicbfjnpaa
