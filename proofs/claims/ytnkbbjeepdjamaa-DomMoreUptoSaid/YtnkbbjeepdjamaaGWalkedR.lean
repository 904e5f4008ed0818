/- graph.walk with the closures of Reached goes depth first. Conditions: few places. -/
import Derived.Test.YtnkbbjeepdjamaaGWalkR
import Derived.LoopTactic
import Derived.Outline
namespace Go.Proofs.Ytnkbbjeepdjamaa
open Go.RowKit
namespace WR
set_option maxRecDepth 100000 in
set_option maxHeartbeats 4000000 in
theorem walk_ok {base q B : Nat} {gv : Value} {b a : List (List Nat)} {S1 : Nat → Prop} (hn : b.length ≤ 1048575) (hb : ∀ (i : Nat) (l : List Nat), b[i]? = some l → ∀ x ∈ l, x < b.length) : ∀ k, WalkOk base gv b a S1 q B (fun i => b.getD i []) k
  | 0 => by
    intro v st w S2 hws hv hk
    have := unseen_set hv
    omega
  | k + 1 => by
    have IH := Lib.hid (walk_ok (base := base) (q := q) (B := B) (gv := gv) (a := a) (S1 := S1) hn hb k)
    intro v st w S2 hws hv hk hp1 hp2
    have hvn : v < b.length := by rw [← hws.len]; exact getD_lt hv
    have hu := unseen_set hv
    obtain ⟨q1, p1, vs, us, rfl, m1, m2, hla, hd, hS⟩ := hws.gr.ex
    obtain ⟨rv, l, hrv, hl, hr⟩ := m1.get hvn
    obtain ⟨A, c, rfl, _, _, _⟩ := rowAt_slice hr
    rw [List.length_map] at hr hrv
    have HW := Lib.hid hws
    have HV := Lib.hid hv
    have HL := Lib.hid (And.intro hrv (And.intro hl (And.intro hb (And.intro hS hr))))
    have HM := Lib.hid m1
    obtain ⟨X, hX⟩ : ∃ X, w.alloc (.cells #[.slice (some ⟨q1, 0, none⟩) b.length b.length, .slice (some ⟨p1, 0, none⟩) b.length b.length] 28) = X := ⟨_, rfl⟩
    obtain ⟨hx, hbx, hz⟩ := boxed hX rfl
    have hwX := hws.later hbx
    have c0 := hwX.seen.cell v (by rw [hws.len]; exact hvn)
    rw [hv, ← hX] at c0
    have f0 := hwX.seen.frozen v
    rw [← hX] at f0
    have HX := Lib.hid (And.intro hwX (And.intro hx (And.intro hbx (And.intro hz hX))))
    have hv0 : 0 ≤ (v : Int) := by omega
    have hv1 : (v : Int) < (b.length : Int) := by omega
    clear hwX hx hbx hz hX hws hv hrv hl hr hla hd hS m1 m2 hb
    go_enter Try.func57, Try.ntmps57
    go_wp2_with fail
    rw [HX.out.2.2.2.2]
    clear c0 f0
    have hq : q < w.heap.size := lt_blk HW.out.seen
    have hzX : X.heap.size = w.heap.size + 1 := HX.out.2.2.2.1
    refine (first_ok (X.setCell ⟨q, v, none⟩ (.bool true)) base B st S2 v (HX.out.1.jw.only (Only.setCell X ⟨q, v, none⟩ (.bool true)) (fun g hg e => HX.out.1.n2 (by have e : g = q := e; rw [← e]; exact hg))) (by omega)).mono ?_
    rintro e w2 ⟨rfl, S2', hj2, ho2, hs2⟩
    have hs2' : ∀ g, S2' g → S2 g ∨ X.heap.size ≤ g := fun g hg => (hs2 g hg).imp id (by simp)
    have hwe := HX.out.1.enter v ho2 hj2 hs2' (by omega)
    have hst : Stp q w S2 w2 S2' := ((Stp.below S2 HX.out.2.2.1).trans (Stp.put q X S2 v (.bool true))).trans (Stp.of ho2 hs2)
    have hm2 : Mat w2 base q1 vs b := HM.out.only hst.1 (fun g hg e => by
      have h1 : S1 g := (HL.out.2.2.2.1 g).2 (.inl hg)
      rcases e with e | e
      · exact HW.out.n1 (by rw [← e]; exact h1)
      · exact HW.out.n12 g h1 e)
    have hbx2 : w2.heap[w.heap.size]? = some (.cells #[.slice (some ⟨q1, 0, none⟩) b.length b.length, .slice (some ⟨p1, 0, none⟩) b.length b.length] 28 (0, 0)) := by
      rw [ho2.block w.heap.size (by simp; omega) (fun e => by have := (HW.out.jw.lt e).1; omega)]
      rw [Below.heap_setCell X ⟨q, v, none⟩ (.bool true) _ (by show w.heap.size ≠ q; omega)]
      exact HX.out.2.1
    have x0 := cell_of_blk _ _ _ _ _ hbx2 0
    have hc := hm2.cell v
    rw [HL.out.1] at hc
    have hnw : ¬ S2' w.heap.size := fun e => (hs2' _ e).elim (fun e => by have := (HW.out.jw.lt e).1; omega) (fun e => by omega)
    have HS := Lib.hid (And.intro hwe (And.intro hst (And.intro hm2 (And.intro hbx2 hnw))))
    have hlenl : l.length ≤ maxLen := by
      obtain ⟨A', c', h1, h2, h3, _⟩ := rowAt_slice HL.out.2.2.2.2
      rw [List.length_map] at h1 h2
      omega
    have hcnt := dfsL_count (fun i => b.getD i []) k
    have HCN := Lib.hid hcnt
    clear hj2 ho2 hs2 hs2' hwe hst hm2 hbx2 hnw hcnt HX hzX hq X
    simp at x0
    simp only [maxLen] at hlenl
    go_wp2_with fail
    clear x0 hc
    go_loopw [24] (fun i wr => ∃ j : Nat, i = .int .i64 (j : Int) ∧ Hid (j ≤ l.length ∧ WPost w2 base (.agg #[.slice (some ⟨q1, 0, none⟩) b.length b.length, .slice (some ⟨p1, 0, none⟩) b.length b.length]) b a S1 q B (dfsL (fun i => b.getD i []) k (l.take j) (st.enter v)) S2' wr)) (fun i _ => l.length - (intOf i).toNat)
    case atStart => exact ⟨0, rfl, Lib.hid ⟨Nat.zero_le _, S2', by rw [List.take_zero, dfsL_nil]; exact HS.out.1, Stp.refl _ _ _⟩⟩
    case round =>
      obtain ⟨j, rfl, HI⟩ := hrel
      obtain ⟨hj0, S3, hws3, hst3⟩ := HI.out
      clear HI
      have hne : ∀ g, S1 g → ¬ (g = q ∨ S2' g) := fun g h1 e => e.elim (fun e => HS.out.1.n1 (by rw [← e]; exact h1)) (fun e => HS.out.1.n12 g h1 e)
      have hm3 : Mat wr base q1 vs b := HS.out.2.2.1.only hst3.1 (fun g hg e => hne g ((HL.out.2.2.2.1 g).2 (.inl hg)) e)
      have hr3 : RowAt wr base 3 (.slice A l.length c) (l.map iv) := hm3.row v _ l HL.out.1 HL.out.2.1
      have hbx3 : wr.heap[w.heap.size]? = some (.cells #[.slice (some ⟨q1, 0, none⟩) b.length b.length, .slice (some ⟨p1, 0, none⟩) b.length b.length] 28 (0, 0)) := by
        rw [hst3.1.block w.heap.size (lt_blk HS.out.2.2.2.1) (fun e => ?_)]
        · exact HS.out.2.2.2.1
        · rcases e with e | e
          · have := lt_blk HW.out.seen; omega
          · exact HS.out.2.2.2.2 e
      have hcn := HCN.out (l.take j) (st.enter v)
      obtain ⟨s, hs⟩ : ∃ s, dfsL (fun i => b.getD i []) k (l.take j) (st.enter v) = s := ⟨_, rfl⟩
      rw [hs] at hws3 hcn
      have hen : (st.enter v).pre.length + unseen (st.enter v).seen = st.pre.length + unseen st.seen ∧ (st.enter v).post.length + unseen (st.enter v).seen + 1 = st.post.length + unseen st.seen := by
        simp only [DSt.enter, List.length_append, List.length_singleton]; omega
      by_cases hj : j < l.length
      · obtain ⟨x, hx⟩ : ∃ x, l[j]? = some x := ⟨_, List.getElem?_eq_getElem hj⟩
        have hxn : x < b.length := HL.out.2.2.1 v l HL.out.2.1 x (List.mem_of_getElem? hx)
        obtain ⟨g0, o0, rfl⟩ : ∃ g o, A = some ⟨g, o, none⟩ := by
          rcases hr3 with ⟨h1, h2⟩ | ⟨g, o, cap, cur, h1, _⟩
          · have : l = [] := by simpa using h2
            subst this; simp at hj
          · injection h1 with h1; exact ⟨g, o, h1⟩
        have hc := hr3.cell j (iv x) (by rw [List.getElem?_map, hx]; rfl)
        have hsc := hws3.seen.cell x (by rw [hws3.len]; exact hxn)
        have pp1 : ((j : Int) < (l.length : Int)) = True := eq_true (by omega)
        have q0 : 0 ≤ (x : Int) := by omega
        have q2 : (x : Int) < (b.length : Int) := by omega
        have hsn : dfsL (fun i => b.getD i []) k (l.take (j + 1)) (st.enter v) = if s.seen.getD x true = true then s else dfs (fun i => b.getD i []) k x s := by rw [take_snoc' l j x hx, dfsL_snoc, hs]
        have x0 := cell_of_blk _ _ _ _ _ hbx3 0
        have x1 := cell_of_blk _ _ _ _ _ hbx3 1
        have HSN := Lib.hid hsn
        have HC3 := Lib.hid (And.intro hws3 (And.intro hst3 hcn))
        have HE := Lib.hid hen
        unfold iv at hc
        simp at x0 x1
        by_cases hsx : s.seen.getD x true = true
        · rw [hsx] at hsc
          have HX := Lib.hid hsx
          clear hsn hws3 hst3 hcn hen hx hs hsx hbx3 hm3 hr3 hne x0 x1
          go_wp2_with fail
          go_roundw
          case rel => exact ⟨j + 1, by go_num, Lib.hid ⟨by omega, S3, by rw [HSN.out, if_pos HX.out]; exact HC3.out.1, HC3.out.2.1⟩⟩
          case measure => simp [intOf]; omega
        · have hsx' : s.seen.getD x true = false := by simpa using hsx
          rw [hsx'] at hsc
          have HX := Lib.hid (And.intro hsx hsx')
          clear hsn hws3 hst3 hcn hen hx hs hsx hsx' hbx3 hm3 hr3 hne
          go_wp2_with fail
          refine (IH.out x s wr S3 HC3.out.1 HX.out.2 (by have h1 := HC3.out.2.2.2.2.1; have h2 : unseen (st.enter v).seen + 1 = unseen st.seen := hu; omega) (by have := HC3.out.2.2.1; have := HE.out.1; omega) (by have := HC3.out.2.2.2.1; have := HE.out.2; omega)).mono ?_
          rintro e w4 ⟨rfl, S4, hw4, ho4⟩
          have HR4 := Lib.hid (And.intro hw4 ho4)
          clear hw4 ho4 x0 x1 hc hsc
          go_wp2_with fail
          go_roundw
          case rel => exact ⟨j + 1, by go_num, Lib.hid ⟨by omega, S4, by rw [HSN.out, if_neg HX.out.1]; exact HR4.out.1, HC3.out.2.1.trans HR4.out.2⟩⟩
          case measure => simp [intOf]; omega
      · obtain rfl : j = l.length := by omega
        have pp1 : ((l.length : Int) < (l.length : Int)) = False := eq_false (by omega)
        rw [List.take_length] at hs
        have HC3 := Lib.hid (And.intro hws3 (And.intro hst3 (And.intro hcn (And.intro hs hen))))
        clear hws3 hst3 hcn hen hs hbx3 hm3 hr3 hne
        go_wp2_with fail
        refine (last_ok wr base B s S3 v HC3.out.1.jw (by have := HC3.out.1.few.2; omega)).mono ?_
        rintro e w5 ⟨rfl, S5, hj5, ho5, hs5⟩
        have hfin := HC3.out.1.leave v ho5 hj5 hs5 (by have h1 := HC3.out.2.2.1.2.1; have h2 := HC3.out.2.2.2.2.2; have := HC3.out.2.2.1.2.2.1; omega)
        have hlv : b.getD v [] = l := by rw [List.getD_eq_getElem?_getD, HL.out.2.1]; rfl
        have hend : WPost w base (.agg #[.slice (some ⟨q1, 0, none⟩) b.length b.length, .slice (some ⟨p1, 0, none⟩) b.length b.length]) b a S1 q B (dfs (fun i => b.getD i []) (k + 1) v st) S2 w5 := by
          refine ⟨S5, ?_, (HS.out.2.1.trans HC3.out.2.1).trans (Stp.of ho5 hs5)⟩
          rw [dfs_succ]
          simp only [hlv]
          rw [HC3.out.2.2.2.1]
          exact hfin
        have HEND := Lib.hid hend
        clear hj5 ho5 hs5 hfin hlv hend
        go_wp2_with fail
        go_end0
        exact ⟨rfl, HEND.out⟩
end WR
end Go.Proofs.Ytnkbbjeepdjamaa
