/- refinerylaw07.GraphOrders: the walk. Conditions: the numbers are of their kinds. -/
import Derived.Test.YtffnkbicbfjnpaaGOrdW
import Derived.Test.YtffnkbicbfjnpaaGOrderO
import Derived.Test.YtffnkbicbfjnpaaGOrderF
import Derived.Deep.RegionHeld3
import Derived.Shelf.RegionOpen
import Derived.StillTailTactics
import Derived.Laws.EntriesVeiled
namespace Go.Proofs.Ytffnkbicbfjnpaa
open Go.RowKit
attribute [local go_sem] Oper.semAt_some
/-- What the law keeps in its boxes. -/
structure OGL (W : World) (base n : Nat) (b a : List (List Nat)) (B q1 p1 b6 b7 : Nat) (S T6 T7 : Nat → Prop) (l6 l7 : List Nat) (X : World) : Prop where
  gr : Gr X base (.agg #[.slice (some ⟨q1, 0, none⟩) n n, .slice (some ⟨p1, 0, none⟩) n n]) b a S
  c0 : X.cell? ⟨B, 0, none⟩ = some (.slice (some ⟨q1, 0, none⟩) n n)
  c1 : X.cell? ⟨B, 1, none⟩ = some (.slice (some ⟨p1, 0, none⟩) n n)
  r6 : BoxRow X base b6 l6 T6
  r7 : BoxRow X base b7 l7 T7
  below : Below W.heap.size W X
theorem OGL.later {W X X' : World} {base n : Nat} {b a : List (List Nat)} {B q1 p1 b6 b7 : Nat} {S T6 T7 : Nat → Prop} {l6 l7 : List Nat} (h : OGL W base n b a B q1 p1 b6 b7 S T6 T7 l6 l7 X) (hb : Below X.heap.size X X') : OGL W base n b a B q1 p1 b6 b7 S T6 T7 l6 l7 X' :=
  ⟨h.gr.later hb, (hb.cell (p := ⟨B, 0, none⟩) (World.block_lt_of_cell? X _ h.c0)).trans h.c0, (hb.cell (p := ⟨B, 1, none⟩) (World.block_lt_of_cell? X _ h.c1)).trans h.c1,
   h.r6.only (Only.of_below hb) (fun g hg e => by have := (h.r6.lt hg).1; omega), h.r7.only (Only.of_below hb) (fun g hg e => by have := (h.r7.lt hg).1; omega), h.below.trans (hb.mono h.below.size)⟩
/-- What the last line reads. -/
structure OFS (W : World) (base n : Nat) (b a : List (List Nat)) (B q1 p1 b6 b7 b9 D : Nat) (S : Nat → Prop) (v6 v7 v9 : Value) (l6 l7 l9 : List Nat) (X : World) : Prop where
  gr : Gr X base (.agg #[.slice (some ⟨q1, 0, none⟩) n n, .slice (some ⟨p1, 0, none⟩) n n]) b a S
  c0 : X.cell? ⟨B, 0, none⟩ = some (.slice (some ⟨q1, 0, none⟩) n n)
  c1 : X.cell? ⟨B, 1, none⟩ = some (.slice (some ⟨p1, 0, none⟩) n n)
  k6 : X.cell? ⟨b6, 0, none⟩ = some v6
  k7 : X.cell? ⟨b7, 0, none⟩ = some v7
  k9 : X.cell? ⟨b9, 0, none⟩ = some v9
  r6 : RowAt X base 3 v6 (l6.map iv)
  r7 : RowAt X base 3 v7 (l7.map iv)
  r9 : RowAt X b9 3 v9 (l9.map iv)
  kD : X.heap[D]? = some (.deferred (some []))
  below : Below W.heap.size W X
theorem OFS.later {W X X' : World} {base n : Nat} {b a : List (List Nat)} {B q1 p1 b6 b7 b9 D : Nat} {S : Nat → Prop} {v6 v7 v9 : Value} {l6 l7 l9 : List Nat} (h : OFS W base n b a B q1 p1 b6 b7 b9 D S v6 v7 v9 l6 l7 l9 X) (hb : Below X.heap.size X X') : OFS W base n b a B q1 p1 b6 b7 b9 D S v6 v7 v9 l6 l7 l9 X' := by
  have cl : ∀ {k i : Nat} {v : Value}, X.cell? ⟨k, i, none⟩ = some v → X'.cell? ⟨k, i, none⟩ = some v := fun {k i v} hc => (hb.cell (p := ⟨k, i, none⟩) (World.block_lt_of_cell? X _ hc)).trans hc
  have ho := Only.of_below hb
  exact ⟨h.gr.later hb, cl h.c0, cl h.c1, cl h.k6, cl h.k7, cl h.k9, h.r6.only ho (fun g hg e => by have := (h.r6.lt hg).1; omega), h.r7.only ho (fun g hg e => by have := (h.r7.lt hg).1; omega), h.r9.only ho (fun g hg e => by have := (h.r9.lt hg).1; omega), (hb.block _ (lt_blk h.kD)).trans h.kD, h.below.trans (hb.mono h.below.size)⟩
/-- What only a normal end asks. -/
def nrm (Q : Exit → Act → World → Prop) : Exit → Act → World → Prop
  | .normal, a, w => Q .normal a w
  | _, _, _ => False
theorem nrm_le (Q : Exit → Act → World → Prop) : ∀ e a w, nrm Q e a w → Q e a w := by
  intro e a w h
  cases e <;> first | exact h | exact h.elim
theorem alloc_old {w : World} {k : Nat} {o o' : Obj} (h : w.heap[k]? = some o) : (w.alloc o').heap[k]? = some o :=
  (Below.heap_alloc w o' k (lt_blk h)).trans h
/-- Seven new blocks. -/
theorem seven {w X : World} {o0 o1 o2 o3 o4 o5 o6 : Obj} (h : ((((((w.alloc o0).alloc o1).alloc o2).alloc o3).alloc o4).alloc o5).alloc o6 = X) :
    X.heap[w.heap.size]? = some o0 ∧ X.heap[w.heap.size + 1]? = some o1 ∧ X.heap[w.heap.size + 2]? = some o2 ∧ X.heap[w.heap.size + 3]? = some o3 ∧ X.heap[w.heap.size + 4]? = some o4 ∧ X.heap[w.heap.size + 5]? = some o5 ∧ X.heap[w.heap.size + 6]? = some o6 ∧ X.heap.size = w.heap.size + 7 ∧ Below w.heap.size w X := by
  subst h
  have n1 := heap_alloc_new' (w.alloc o0) o1
  have n2 := heap_alloc_new' ((w.alloc o0).alloc o1) o2
  have n3 := heap_alloc_new' (((w.alloc o0).alloc o1).alloc o2) o3
  have n4 := heap_alloc_new' ((((w.alloc o0).alloc o1).alloc o2).alloc o3) o4
  have n5 := heap_alloc_new' (((((w.alloc o0).alloc o1).alloc o2).alloc o3).alloc o4) o5
  have n6 := heap_alloc_new' ((((((w.alloc o0).alloc o1).alloc o2).alloc o3).alloc o4).alloc o5) o6
  simp only [World.size_alloc] at n1 n2 n3 n4 n5 n6
  refine ⟨alloc_old (alloc_old (alloc_old (alloc_old (alloc_old (alloc_old (heap_alloc_new' w o0)))))), alloc_old (alloc_old (alloc_old (alloc_old (alloc_old n1)))), alloc_old (alloc_old (alloc_old (alloc_old n2))), alloc_old (alloc_old (alloc_old n3)), alloc_old (alloc_old n4), alloc_old n5, n6, by simp, ?_⟩
  exact ((((((((Below.refl _ _).alloc (Nat.le_refl _) _).alloc (by simp) _).alloc (by simp; omega) _).alloc (by simp; omega) _).alloc (by simp; omega) _).alloc (by simp; omega) _).alloc (by simp; omega) _)
set_option maxHeartbeats 2000000 in
theorem orders_far (N : Nat) (A : Option Addr) (c : Nat) (es : List (Nat × Nat)) (W : World) (hl : ¬ es.length ≤ 40) :
    Calls Try.prog 10 #[.agg #[.int .u8 N, .slice A es.length c]] W fun e W' => e = .returned (.bool true) ∧ Below W.heap.size W W' := by
  go_enter Try.func10, Try.ntmps10
  go_wp2_with fail
  generalize hX : World.alloc W _ = X
  obtain ⟨hx, hbx, hz⟩ := boxed hX rfl
  have HX := Lib.hid (And.intro hx (And.intro hbx hz))
  clear hX hx hbx hz
  refine (gawake_calls X).mono ?_
  rintro e W1 ⟨rfl, hb⟩
  have H1 := Lib.hid (And.intro ((hb.block _ (lt_blk HX.out.1)).trans HX.out.1) (below_two HX.out.2.1 hb))
  clear hb HX
  have x0 := cell_of_blk _ _ _ _ _ H1.out.1 0
  have x1 := cell_of_blk _ _ _ _ _ H1.out.1 1
  simp at x0 x1
  go_wp2_with fail
  clear x0 x1
  refine (light_calls7 N A es.length c W1).mono ?_
  rintro e W2 ⟨rfl, hb⟩
  have hbel := below_two H1.out.2 hb
  rw [decide_eq_false hl]
  clear hb H1
  go_wp2_with fail
  go_ret
  exact ⟨rfl, hbel⟩
set_option linter.unusedSimpArgs false in
set_option maxRecDepth 100000 in
set_option maxHeartbeats 8000000 in
theorem orders_near (N : Nat) (hN : N ≤ 255) (A : Option Addr) (c : Nat) (es : List (Nat × Nat)) (W : World) (hA : Edges W A es) (hc : es.length ≤ c) (hl1 : es.length ≤ 40) :
    Calls Try.prog 10 #[.agg #[.int .u8 N, .slice A es.length c]] W fun e W' => e = .returned (.bool true) ∧ Below W.heap.size W W' := by
  have HA := Lib.hid (And.intro hA (And.intro hc hN))
  clear hA hc hN
  refine (callsIn_wide (n := 3)).1 ?_
  refine callsIn_of_wp_marks Try.func10 rfl trivial ?_ rfl
  simp only [Try.ntmps10, List.size_toArray, List.length_cons, List.length_nil, Nat.reduceAdd, Nat.reduceSub, Array.replicate_succ, Array.replicate_zero, List.push_toArray, List.append_toArray, List.nil_append, List.cons_append]
  refine wpIn_wide.2 ?_
  go_wp2_with fail
  generalize hX : World.alloc W _ = X
  obtain ⟨hx, hbx, hz⟩ := boxed hX rfl
  have HX := Lib.hid (And.intro hx (And.intro hbx hz))
  clear hX hx hbx hz
  refine (gawake_calls X).mono ?_
  rintro e W1 ⟨rfl, hb⟩
  have H1 := Lib.hid (And.intro ((hb.block _ (lt_blk HX.out.1)).trans HX.out.1) (below_two HX.out.2.1 hb))
  clear hb HX
  have x0 := cell_of_blk _ _ _ _ _ H1.out.1 0
  have x1 := cell_of_blk _ _ _ _ _ H1.out.1 1
  simp at x0 x1
  go_wp2_with fail
  clear x0 x1
  refine (light_calls7 N A es.length c W1).mono ?_
  rintro e W2 ⟨rfl, hb⟩
  have H2 := Lib.hid (And.intro ((hb.block _ (lt_blk H1.out.1)).trans H1.out.1) (below_two H1.out.2 hb))
  clear hb H1
  by_cases hl : es.length ≤ 40
  · rw [decide_eq_true hl]
    have x0 := cell_of_blk _ _ _ _ _ H2.out.1 0
    have x1 := cell_of_blk _ _ _ _ _ H2.out.1 1
    simp at x0 x1
    go_wp2_with fail
    clear x0 x1
    refine (small_calls N HA.out.2.2 A c es W2 (HA.out.1.later H2.out.2) HA.out.2.1 (by omega)).mono ?_
    rintro e W3 ⟨gv, q, vs, S, rfl, hg, hm, hap, hb3⟩
    obtain ⟨n, hn⟩ : ∃ n, 1 + N % 12 = n := ⟨_, rfl⟩
    have hn0 : 0 < n := by omega
    have hn12 : n ≤ 12 := by omega
    rw [hn] at hg hm ⊢
    have hrw := graph_rows n hn0 es
    generalize graphB n es = b at *
    generalize graphA n es = a at *
    obtain ⟨q1, p1, rfl⟩ := hg.form
    rw [hrw.lb] at hg ⊢
    have HG := Lib.hid (And.intro (hg.lower H2.out.2.size) (And.intro (hm.lower H2.out.2.size) (And.intro (H2.out.2.trans (hb3.mono H2.out.2.size)) (And.intro hrw hap))))
    have hmk := mk_falses n (by omega)
    have hn1 : (n : Int) ≤ 1048576 := by omega
    clear hg hm hap hb3 hrw H2 hn HA
    go_wp2_with fail
    generalize hX : World.alloc (World.alloc (World.alloc (World.alloc (World.alloc (World.alloc (World.alloc W3 _) _) _) _) _) _) _ = X
    obtain ⟨y0, y1, y2, y3, y4, y5, y6, yz, yb⟩ := seven hX
    clear hX
    obtain ⟨B, hB⟩ : ∃ B, W3.heap.size = B := ⟨_, rfl⟩
    rw [hB] at y0 y1 y2 y3 y4 y5 y6 yz yb
    rw [hB]
    obtain ⟨b4, h4⟩ : ∃ k, B + 1 = k := ⟨_, rfl⟩
    obtain ⟨sq, h5⟩ : ∃ k, b4 + 1 = k := ⟨_, rfl⟩
    obtain ⟨b5, h6⟩ : ∃ k, sq + 1 = k := ⟨_, rfl⟩
    obtain ⟨b6, h7⟩ : ∃ k, b5 + 1 = k := ⟨_, rfl⟩
    obtain ⟨b7, h8⟩ : ∃ k, b6 + 1 = k := ⟨_, rfl⟩
    obtain ⟨b8, h9⟩ : ∃ k, b7 + 1 = k := ⟨_, rfl⟩
    rw [h4, h5, h6, h7, h8, h9]
    rw [h4, h5] at y3
    rw [h4] at y1
    rw [show B + 2 = sq by omega] at y2
    rw [show B + 3 = b5 by omega] at y3
    rw [show B + 4 = b6 by omega] at y4
    rw [show B + 5 = b7 by omega] at y5
    rw [show B + 6 = b8 by omega] at y6
    rw [h4, h5, h6, h7, h8] at y6
    have hlb := HG.out.2.2.2.1.lb
    have hfew : Few b := HG.out.2.2.2.1.fewOf (by omega)
    have hz3 := HG.out.2.2.1.size
    have hbW : Below W3.heap.size W3 X := by rw [hB]; exact yb
    have hmat : Mat X W.heap.size q vs b := HG.out.2.1.later hbW
    have hgr := HG.out.1.later hbW
    have hB0 : OW.Base X W.heap.size q vs b sq b5 b6 b4 b8 b7 := ⟨hmat,
      by rw [hlb]; exact cell_of_blk _ _ _ _ _ y3 0,
      by rw [hlb]; exact cell_of_blk _ _ _ _ _ y1 0,
      cell_of_blk _ _ _ _ _ y6 0, by have := hbW.size; omega⟩
    have hml : ∀ g, MatB q vs g → g < B := fun g hg => hB ▸ (HG.out.2.1.lt hg).1
    have hQ0 : OW.QS X W.heap.size q vs b sq b5 b6 b4 b8 b7 X (dst0 n) (fun g => g = b6) (fun g => g = b7) := ⟨Only.refl _ _,
      falses_seen y2, by simp [dst0, hlb],
      BoxRow.new y4 (by omega),
      BoxRow.new y5 (by omega),
      fun e => by
        rcases e with e | e
        · have := hml _ e; omega
        · omega,
      fun g hg => ⟨fun e => by
        rcases e with e | e
        · have := hml _ e; omega
        · omega, by omega⟩, fun g hg => ⟨fun e => by
        rcases e with e | e
        · have := hml _ e; omega
        · omega, by omega, by omega⟩⟩
    have hord := OW.ord_ok hB0 hfew n 0 (dst0 n) X _ _ hQ0 (by rw [dst0_seen]; simp; omega) (by simp [dst0, unseen_replicate]) (by simp [dst0, unseen_replicate, hlb]) (by simp [dst0, unseen_replicate, hlb])
    have hg0 : X.cell? ⟨B, 0, none⟩ = some (.slice (some ⟨q1, 0, none⟩) n n) ∧ X.cell? ⟨B, 1, none⟩ = some (.slice (some ⟨p1, 0, none⟩) n n) :=
      ⟨cell_of_blk _ _ _ _ _ y0 0, cell_of_blk _ _ _ _ _ y0 1⟩
    have hfacts : Hid (∀ w1 T6 T7, OW.QS X W.heap.size q vs b sq b5 b6 b4 b8 b7 w1 (dfs (nb b) n 0 (dst0 n)) T6 T7 → OW.Stp sq X (fun g => g = b6) (fun g => g = b7) w1 T6 T7 → OGL W W.heap.size n b a B q1 p1 b6 b7 S T6 T7 (dfs0 (nb b) n).pre (dfs0 (nb b) n).post.reverse w1) := by
      refine Lib.hid (fun w1 T6 T7 hq hs => ?_)
      have hd : dfs0 (nb b) n = dfs (nb b) n 0 (dst0 n) := by unfold dfs0; rw [if_neg (by omega)]
      have hbel : Below (B + 1) X w1 := hs.1.below (by have := lt_blk y6; omega) (fun k hk e => by omega)
      have hbW1 : Below W3.heap.size W3 w1 := hbW.trans (by rw [hB]; exact hbel.mono (by omega))
      exact ⟨HG.out.1.later hbW1, (hbel.cell (p := ⟨B, 0, none⟩) (by simp)).trans hg0.1, (hbel.cell (p := ⟨B, 1, none⟩) (by simp)).trans hg0.2, by rw [hd]; exact hq.pre, by rw [hd]; exact hq.post, HG.out.2.2.1.trans (hbW1.mono hz3)⟩
    have HORD := Lib.hid hord
    have HF := Lib.hid (And.intro hlb hfew)
    clear y0 y1 y2 y3 y4 y5 y6 yz yb hlb hfew hz3 hbW hmat hgr hB0 hml hQ0 hord hg0 hmk h4 h5 h6 h7 h8 h9
    go_wp2_with fail
    refine HORD.out.mono ?_
    rintro e W5 ⟨rfl, T6, T7, hq5, hs5⟩
    have HO5 := Lib.hid (hfacts.out W5 T6 T7 hq5 hs5)
    have e0 := HO5.out.c0
    have e1 := HO5.out.c1
    have hB5 : B < W5.heap.size := World.block_lt_of_cell? W5 _ e0
    clear HORD hfacts hq5 hs5
    go_wp2_with fail
    clear e0 e1 hB5
    generalize hY : World.alloc W5 _ = Y
    obtain ⟨hy, hby, hyz⟩ := boxed hY rfl
    have hO6 := HO5.out.later hby
    obtain ⟨b9, h9⟩ : ∃ k, W5.heap.size = k := ⟨_, rfl⟩
    rw [h9] at hy hyz ⊢
    have hwf := WF.gives hO6.gr HF.out.2
    have HWF := Lib.hid hwf
    have HO5b := Lib.hid HO5.out.below.size
    have hlts : (∀ g, S g → g < b9) ∧ B < b9 ∧ (∀ g, T6 g → g < b9) ∧ ∀ g, T7 g → g < b9 := by
      rw [← h9]
      exact ⟨fun g hg => (HO5.out.gr.lt hg).1, World.block_lt_of_cell? W5 _ HO5.out.c0, fun g hg => (HO5.out.r6.lt hg).1, fun g hg => (HO5.out.r7.lt hg).1⟩
    have HLT := Lib.hid hlts
    clear hlts
    have HO6 := Lib.hid (And.intro hO6 (And.intro hy (And.intro hyz h9)))
    clear hY hy hby hyz hO6 h9 HO5 hwf
    refine HWF.out.mono ?_
    rintro e W7 ⟨Bx, vx, rfl, hx1, hx2, hx3, hx4⟩
    rw [HF.out.1] at hx3
    obtain ⟨Ax, cx, rfl, _, _, _⟩ := rowAt_slice hx3
    simp only [List.length_map] at hx1 hx3
    obtain ⟨p, hp⟩ : ∃ p, (dfs0 (nb b) n).pre = p := ⟨_, rfl⟩
    obtain ⟨o, ho⟩ : ∃ o, (dfs0 (nb b) n).post.reverse = o := ⟨_, rfl⟩
    rw [hp] at hx1 hx3
    obtain ⟨D, hD⟩ : ∃ D, W7.heap.size = D := ⟨_, rfl⟩
    have hgl7 := HO6.out.1.later hx4
    rw [hp, ho] at hgl7
    have hb9 := (hx4.block b9 (lt_blk HO6.out.2.1)).trans HO6.out.2.1
    rw [HO6.out.2.2.1] at hx2 hx3
    have hl9 : b9 < D := hD ▸ lt_blk hb9
    have hlx : Bx < D := hD ▸ lt_blk hx1
    have hmax := (rowAt_cells hx3).2.2
    have hmax' : (ivs p).length ≤ maxLen := by rw [ivs_len]; exact hmax
    have hW7 : Below W.heap.size W W7 := hgl7.below
    have hW9 : W.heap.size ≤ b9 := by have := HO6.out.1.below.size; have := HO6.out.2.2.1; have h1 := HO6.out.2.2.2; have := hgl7.below.size; have := (HO5b).out; omega
    have HO7 := Lib.hid (And.intro hgl7 (And.intro hb9 (And.intro hx1 (And.intro hx2 (And.intro hx3 (And.intro hp ho))))))
    have hpl : p.length ≤ n := by
      have hd : dfs0 (nb b) n = dfs (nb b) n 0 (dst0 n) := by unfold dfs0; rw [if_neg (by omega)]
      have h1 := (dfs_count (nb b) n 0 (dst0 n) (by rw [dst0_seen]; simp; omega)).1
      rw [← hd, hp] at h1
      simp [dst0, unseen_replicate] at h1
      omega
    clear hx1 hx2 hx3 hx4 HWF hgl7 hb9 hp ho hmax hW7
    go_wp2_with fail
    refine (wpIn_wide (n := 3)).1 ?_
    generalize hact : (Act.mk _ _ : Act) = a0
    refine wpIn_rf_steps (n := 3) rfl (by omega) (gf := 111) (lb := #[.pointer (some ⟨Bx, 0, none⟩)]) (by rw [← hact]; rfl) trivial (enters_of Try.func111 (by kernel_rfl) rfl) (encs := SI.encs (ivs p)) (N := (ivs p).length) (fun _ => rfl)
      (Rd := fun W' => SI.CellsAt Ax (ivs p) W' ∧ W'.cell? ⟨Bx, 0, none⟩ = some (.slice Ax (ivs p).length cx))
      (fun J Jx hR hY W' hJ => SI.values_in 2 Bx _ Ax cx (ivs p) hmax' J Jx (fun k W' h => (hR k W' h).1) hY W' (hR 0 W' hJ).2 hJ)
      (fun k W' => ∃ T, BoxRow W' b9 b9 (p.take k) T ∧ (∀ g, T g → g = b9 ∨ D + 2 ≤ g) ∧ Only (fun j => j = b9) W7 W')
      (fun _ _ _ => False)
      ?rd ?I ?Ix ?start (fun k a' W' => ∃ x : Nat, p[k]? = some x ∧ a' = Act.mk ((a0.tmps.setIfInBounds 29 (.int .i64 (x : Int))).setIfInBounds 10 (.int .i64 (x : Int))) []) ?Ax ?assign ?body ?done ?stop
    case rd =>
      rintro k W' ⟨T, h1, h2, hO⟩
      have hr := HO7.out.2.2.2.2.1.only hO (fun g hg e => by have := (HO7.out.2.2.2.2.1.lt hg).2; omega)
      refine ⟨(rowAt_cells hr).2.1, ?_⟩
      rw [hO.cell (p := ⟨Bx, 0, none⟩) (by rw [hD]; exact hlx) (by have := HO7.out.2.2.2.1; show ¬ Bx = b9; omega), cell_of_blk _ _ _ _ _ HO7.out.2.2.1, ivs_len]; rfl
    case I =>
      rw [hD]
      rintro k X Y ⟨T, h1, h2, h3⟩ hO
      exact ⟨T, h1.only hO (fun g hg e => by have := h2 g hg; omega), h2, h3.trans hO (fun x hx e => by omega)⟩
    case Ix => exact fun c k X Y h _ => h
    case start =>
      rintro W' hO hlt
      exact ⟨fun g => g = b9, BoxRow.new ((hO.block b9 (by omega) id).trans HO7.out.2.1) (Nat.le_refl _), fun g e => .inl e, hO.mono (fun _ _ h => h.elim)⟩
    case Ax => exact fun k a' A B h _ => h
    case assign =>
      intro k W' K hk hI _ hK
      obtain ⟨x, hx⟩ : ∃ x, p[k]? = some x := ⟨_, List.getElem?_eq_getElem (by rw [ivs_len] at hk; exact hk)⟩
      have HY := Lib.hid hx
      have he : SI.encs (ivs p) k = #[.int .i64 (x : Int)] := by simp [SI.encs, ivs, hx]
      rw [he]
      clear hx he
      subst hact
      gi_wp2
      exact hK _ _ (Only.refl _ _) ⟨x, HY.out, rfl⟩
    case body =>
      rw [hD]
      rintro k a' W' hk ⟨T, h1, h2, h3⟩ ⟨x, hx, rfl⟩ hDd ⟨r, hDl⟩
      subst hact
      simp only [List.setIfInBounds_toArray, List.set_cons_zero, List.set_cons_succ]
      have hD1 : D + 1 < W'.heap.size := lt_blk hDl
      have hkp : k < p.length := by rw [ivs_len] at hk; exact hk
      obtain ⟨v6, j1, j2, j3, j4⟩ := h1.ex
      obtain ⟨A6, m6, c6, rfl⟩ : ∃ A m c, v6 = .slice A m c := (rowAt_slice j2).elim fun A h => h.elim fun c h => ⟨A, _, c, h.1⟩
      obtain ⟨v', w1, hr1, r1, r2, r3⟩ := row_append (w := W'.alloc (.cells #[.int .i64 (x : Int)] 3)) (base := b9) (v := .slice A6 m6 c6) (l := p.take k) (j2.only (Only.alloc (fun _ => False) _ _) (fun _ _ e => e)) ⟨W'.heap.size, 0, none⟩ x (by
        have := cell_of_blk (W'.alloc (.cells #[.int .i64 (x : Int)] 3)) W'.heap.size _ _ _ (heap_alloc_new' W' _) 0
        exact this) (by simp; omega) (by rw [List.length_take]; omega)
      obtain ⟨A1, m1, c1, rfl⟩ : ∃ A m c, v' = .slice A m c := (rowAt_slice r1).elim fun A h => h.elim fun c h => ⟨A, _, c, h.1⟩
      have ho1 : Only (fun g => (Value.slice A6 m6 c6).ownBlock = some g) W' w1 := (Only.alloc _ _ _).trans r2 (fun _ _ e => e)
      have hv6 : (Value.slice A6 m6 c6).ownBlock ≠ some b9 := j2.ne_blk j1 (by decide)
      have d6 : W'.cell? ⟨b9, 0, none⟩ = some (.slice A6 m6 c6) := cell_of_blk _ _ _ _ _ j1 0
      have d6' : w1.cell? ⟨b9, 0, none⟩ = some (.slice A6 m6 c6) := (ho1.cell (p := ⟨b9, 0, none⟩) (lt_blk j1) hv6).trans d6
      have f6' : w1.frozen? ⟨b9, 0, none⟩ = false := (ho1.frozen (p := ⟨b9, 0, none⟩) (lt_blk j1) hv6).trans (by simp [World.frozen?, j1])
      obtain ⟨T6', hbr, hon, hnew⟩ := put_final j1 j2 j3 j4 r1 ho1 (r3.imp id (fun ⟨g, a, b⟩ => ⟨g, a, by simp at b; omega⟩))
      have hfin : rfPost D (fun W' => ∃ T, BoxRow W' b9 b9 (p.take (k + 1)) T ∧ (∀ g, T g → g = b9 ∨ D + 2 ≤ g) ∧ Only (fun j => j = b9) W7 W') (fun _ _ => False) W' .normal ⟨#[], []⟩ (w1.setCell ⟨b9, 0, none⟩ (.slice A1 m1 c1)) := by
        refine ⟨hon.block D (by omega) (fun e => by have := h2 _ e; omega), hon.block (D + 1) (by omega) (fun e => by have := h2 _ e; omega), T6', ?_, fun g hg => ?_, h3.trans hon (fun j hj e => ?_)⟩
        · rw [take_snoc' p k x hx]; exact hbr
        · rcases hnew g hg with e | e
          · exact h2 g e
          · right; omega
        · rcases h2 j e with e | e
          · exact e
          · omega
      have HFIN := Lib.hid hfin
      have HR1 := Lib.hid hr1
      clear hfin hr1 hbr hon hnew r1 r2 r3 ho1 hv6 j1 j2 j3 j4 h1 h2 h3 hx hDd hDl
      gi_wp2_with (first | (gi_at_builtin; refine wpListIn_append_run _ rfl _ _ _ _ rfl _ _ rfl rfl _ _ HR1.out ?_) | fail)
      exact HFIN.out
    case stop => exact fun c k W' h _ => h.elim
    case done =>
      rw [hD]
      rintro W' ⟨T, h1, h2, h3⟩ hDd
      rw [ivs_len, List.take_length] at h1
      subst hact
      obtain ⟨v9, j1, j2, _, _⟩ := h1.ex
      obtain ⟨v6, i1, i2, _, i4⟩ := HO7.out.1.r6.ex
      obtain ⟨v7, m1, m2, _, m4⟩ := HO7.out.1.r7.ex
      obtain ⟨A9, c9, rfl, _, _, _⟩ := rowAt_slice j2
      obtain ⟨A6, c6, rfl, _, _, _⟩ := rowAt_slice i2
      obtain ⟨A7, c7, rfl, _, _, _⟩ := rowAt_slice m2
      simp only [List.length_map] at j1 j2 i1 i2 i4 m1 m2 m4
      have nb9 : ∀ {k : Nat} {o : Obj}, W7.heap[k]? = some o → k ≠ b9 → W'.heap[k]? = some o := fun {k o} hk hne => (h3.block k (lt_blk hk) hne).trans hk
      have hS0 : OFS W W.heap.size n b a B q1 p1 b6 b7 b9 D S (.slice A6 p.length c6) (.slice A7 o.length c7) (.slice A9 p.length c9) p o p W' := by
        have ho7 := HO7.out.1
        have hne : ∀ g, g < b9 → g ≠ b9 := fun g hg e => by omega
        have cl : ∀ {k i : Nat} {v : Value}, W7.cell? ⟨k, i, none⟩ = some v → k < b9 → W'.cell? ⟨k, i, none⟩ = some v := fun {k i v} hc hk => (h3.cell (p := ⟨k, i, none⟩) (by show k < W7.heap.size; omega) (by show ¬ k = b9; omega)).trans hc
        exact ⟨ho7.gr.only h3 (fun g hg => hne g (HLT.out.1 g hg)), cl ho7.c0 HLT.out.2.1, cl ho7.c1 HLT.out.2.1,
          cl (cell_of_blk _ _ _ _ _ i1 0) (HLT.out.2.2.1 _ ((i4 b6).2 (.inl rfl))), cl (cell_of_blk _ _ _ _ _ m1 0) (HLT.out.2.2.2 _ ((m4 b7).2 (.inl rfl))), cell_of_blk _ _ _ _ _ j1 0,
          i2.only h3 (fun g hg => hne g (HLT.out.2.2.1 g ((i4 g).2 (.inr hg)))), m2.only h3 (fun g hg => hne g (HLT.out.2.2.2 g ((m4 g).2 (.inr hg)))), j2, hDd,
          ho7.below.trans (h3.below ho7.below.size (fun k hk e => by have e : k = b9 := e; omega))⟩
      have hS : OFS W W.heap.size n b a B q1 p1 b6 b7 b9 D S (.slice A6 p.length c6) (.slice A7 o.length c7) (.slice A9 p.length c9) p o p (W'.drewN 1) := hS0.later (below_drewN' W' 1)
      clear h1 h2 h3 j1 j2 i1 i2 i4 m1 m2 m4 nb9 hS0
      have hDk := hDd
      go_wp2_with fail
      refine Code.wp_mono (nrm_le _) ?_
      refine wp_region_held_drew (S := (OFS W W.heap.size n b a B q1 p1 b6 b7 b9 D S (.slice A6 p.length c6) (.slice A7 o.length c7) (.slice A9 p.length c9) p o p)) (by kernel_rfl) (by (first | exact hS | exact hk1 | exact hk2 | exact hk3)) (fun hHeld => ?_)
      refine wpAnyH_take (i := 0) (oi := { dst := some 34, op := Go.Op.load 40 (Go.Operand.tmp 9), type := 40, pos := "law.go:110", after := #[], guard := none }) (v := ?_) rfl (by kernel_rfl) (by kernel_rfl) (by kernel_rfl) (fun _ _ _ h => h) (Or.inl ⟨by rfl, ?_⟩) (by assumption) ?_
      rotate_left 1
      · intro w hSw; (have d0 := hSw.c0; have d1 := hSw.c1; have d2 := hSw.k6; have d3 := hSw.k7; have d4 := hSw.k9; clear hSw); go_simp; try with_reducible rfl
      try simp only [Act.put, List.setIfInBounds_toArray, List.set_cons_zero, List.set_cons_succ]
      refine wpAnyH_take (i := 1) (oi := { dst := some 35, op := Go.Op.load 40 (Go.Operand.tmp 6), type := 40, pos := "law.go:110", after := #[], guard := none }) (v := ?_) rfl (by kernel_rfl) (by kernel_rfl) (by kernel_rfl) (fun _ _ _ h => h) (Or.inl ⟨by rfl, ?_⟩) (by assumption) ?_
      rotate_left 1
      · intro w hSw; (have d0 := hSw.c0; have d1 := hSw.c1; have d2 := hSw.k6; have d3 := hSw.k7; have d4 := hSw.k9; clear hSw); go_simp; try with_reducible rfl
      try simp only [Act.put, List.setIfInBounds_toArray, List.set_cons_zero, List.set_cons_succ]
      refine wpAnyH_ready (rs := [2]) (by kernel_rfl) (by simp) ?_
      refine AllReadyH.cons (o := { dst := some 36, op := Go.Op.call { callee := Go.Callee.value (Go.Operand.func 45), args := #[Go.Operand.tmp 34, Go.Operand.tmp 35], argTypes := #[40, 40] }, type := 4, pos := "law.go:110", after := #[{ on := 0, ground := Go.Ground.data }, { on := 1, ground := Go.Ground.data }], guard := none }) rfl (fun K hK => ?_) AllReadyH.nil
      go_simp
      have hg0 := hHeld
      refine (equalG hg0.r9 hg0.r6).mono ?_
      rintro e x1 ⟨rfl, hb1⟩
      rw [decide_eq_true rfl]
      have hk1 := hg0.later hb1
      go_wp2_with fail
      refine hK.out _ _ ?_ (fun hHeld1 => ?_)
      · (try dsimp only); (first | exact hS | exact hk1 | exact hk2 | exact hk3)
      clear hK K hHeld
      try simp only [Act.put, List.setIfInBounds_toArray, List.set_cons_zero, List.set_cons_succ]
      refine wpAnyH_take (i := 3) (oi := { dst := some 37, op := Go.Op.move (Go.Operand.tmp 36), type := 4, pos := "law.go:110", after := #[{ on := 2, ground := Go.Ground.data }, { on := 2, ground := Go.Ground.chain }], guard := none }) (v := ?_) rfl (by kernel_rfl) (by kernel_rfl) (by kernel_rfl) (fun _ _ _ h => h) (Or.inl ⟨by rfl, ?_⟩) (by assumption) ?_
      rotate_left 1
      · intro w hSw; (have d0 := hSw.c0; have d1 := hSw.c1; have d2 := hSw.k6; have d3 := hSw.k7; have d4 := hSw.k9; clear hSw); go_simp; try with_reducible rfl
      try simp only [Act.put, List.setIfInBounds_toArray, List.set_cons_zero, List.set_cons_succ]
      refine wpAnyH_take (i := 4) (oi := { dst := some 38, op := Go.Op.load 80 (Go.Operand.tmp 3), type := 80, pos := "law.go:110", after := #[{ on := 3, ground := Go.Ground.guard }], guard := some (3, true) }) (v := ?_) rfl (by kernel_rfl) (by kernel_rfl) (by kernel_rfl) (fun _ _ _ h => h) (Or.inl ⟨by rfl, ?_⟩) (by assumption) ?_
      rotate_left 1
      · intro w hSw; (have d0 := hSw.c0; have d1 := hSw.c1; have d2 := hSw.k6; have d3 := hSw.k7; have d4 := hSw.k9; clear hSw); go_simp; try with_reducible rfl
      try simp only [Act.put, List.setIfInBounds_toArray, List.set_cons_zero, List.set_cons_succ]
      refine wpAnyH_take (i := 6) (oi := { dst := some 40, op := Go.Op.load 40 (Go.Operand.tmp 7), type := 40, pos := "law.go:110", after := #[{ on := 3, ground := Go.Ground.guard }], guard := some (3, true) }) (v := ?_) rfl (by kernel_rfl) (by kernel_rfl) (by kernel_rfl) (fun _ _ _ h => h) (Or.inl ⟨by rfl, ?_⟩) (by assumption) ?_
      rotate_left 1
      · intro w hSw; (have d0 := hSw.c0; have d1 := hSw.c1; have d2 := hSw.k6; have d3 := hSw.k7; have d4 := hSw.k9; clear hSw); go_simp; try with_reducible rfl
      try simp only [Act.put, List.setIfInBounds_toArray, List.set_cons_zero, List.set_cons_succ]
      refine wpAnyH_ready (rs := [5]) (by kernel_rfl) (by simp) ?_
      refine AllReadyH.cons (o := { dst := some 39, op := Go.Op.call { callee := Go.Callee.value (Go.Operand.func 38), args := #[Go.Operand.tmp 38], argTypes := #[80] }, type := 40, pos := "law.go:110", after := #[{ on := 4, ground := Go.Ground.data }, { on := 3, ground := Go.Ground.chain }, { on := 3, ground := Go.Ground.guard }], guard := some (3, true) }) rfl (fun K hK => ?_) AllReadyH.nil
      go_simp
      have hwo := WO.gives hk1.gr HF.out.2
      refine hwo.mono ?_
      rintro e x2 ⟨v2, rfl, hr2, hb2⟩
      rw [HF.out.1, HO7.out.2.2.2.2.2.2] at hr2
      obtain ⟨A2, c2, rfl, _, _, _⟩ := rowAt_slice hr2
      simp only [List.length_map] at hr2 ⊢
      have hk2 := hk1.later hb2
      go_wp2_with fail
      refine hK.out _ _ ?_ (fun hHeld2 => ?_)
      · (try dsimp only); (first | exact hS | exact hk1 | exact hk2 | exact hk3)
      clear hK K hHeld1
      try simp only [Act.put, List.setIfInBounds_toArray, List.set_cons_zero, List.set_cons_succ]
      refine wpAnyH_ready (rs := [7]) (by kernel_rfl) (by simp) ?_
      refine AllReadyH.cons (o := { dst := some 41, op := Go.Op.call { callee := Go.Callee.value (Go.Operand.func 45), args := #[Go.Operand.tmp 39, Go.Operand.tmp 40], argTypes := #[40, 40] }, type := 4, pos := "law.go:110", after := #[{ on := 5, ground := Go.Ground.data }, { on := 6, ground := Go.Ground.data }, { on := 5, ground := Go.Ground.chain }, { on := 3, ground := Go.Ground.guard }], guard := some (3, true) }) rfl (fun K hK => ?_) AllReadyH.nil
      go_simp
      refine (equalG hr2 hk2.r7).mono ?_
      rintro e x3 ⟨rfl, hb3⟩
      rw [decide_eq_true rfl]
      have hk3 := hk2.later hb3
      go_wp2_with fail
      refine hK.out _ _ ?_ (fun hHeld3 => ?_)
      · (try dsimp only); (first | exact hS | exact hk1 | exact hk2 | exact hk3)
      clear hK K hHeld2
      try simp only [Act.put, List.setIfInBounds_toArray, List.set_cons_zero, List.set_cons_succ]
      refine wpAnyH_take (i := 8) (oi := { dst := some 42, op := Go.Op.pick (Go.Operand.tmp 37) (Go.Operand.tmp 41) (Go.Operand.const (Go.Value.bool false)), type := 4, pos := "law.go:110", after := #[{ on := 3, ground := Go.Ground.data }, { on := 7, ground := Go.Ground.data }], guard := none }) (v := ?_) rfl (by kernel_rfl) (by kernel_rfl) (by kernel_rfl) (fun _ _ _ h => h) (Or.inl ⟨by rfl, ?_⟩) (by assumption) ?_
      rotate_left 1
      · intro w hSw; (have d0 := hSw.c0; have d1 := hSw.c1; have d2 := hSw.k6; have d3 := hSw.k7; have d4 := hSw.k9; clear hSw); go_simp; try with_reducible rfl
      try simp only [Act.put, List.setIfInBounds_toArray, List.set_cons_zero, List.set_cons_succ]
      refine wpAnyH_take (i := 9) (oi := { dst := some 2, op := Go.Op.assign (Go.Operand.tmp 42), type := 4, pos := "law.go:110", after := #[{ on := 8, ground := Go.Ground.data }, { on := 7, ground := Go.Ground.chain }, { on := 0, ground := Go.Ground.phase }, { on := 1, ground := Go.Ground.phase }, { on := 2, ground := Go.Ground.phase }, { on := 3, ground := Go.Ground.phase }, { on := 4, ground := Go.Ground.phase }, { on := 5, ground := Go.Ground.phase }, { on := 6, ground := Go.Ground.phase }, { on := 7, ground := Go.Ground.phase }, { on := 8, ground := Go.Ground.phase }], guard := none }) (v := ?_) rfl (by kernel_rfl) (by kernel_rfl) (by kernel_rfl) (fun _ _ _ h => h) (Or.inl ⟨by rfl, ?_⟩) (by assumption) ?_
      rotate_left 1
      · intro w hSw; (have d0 := hSw.c0; have d1 := hSw.c1; have d2 := hSw.k6; have d3 := hSw.k7; have d4 := hSw.k9; clear hSw); go_simp; try with_reducible rfl
      try simp only [Act.put, List.setIfInBounds_toArray, List.set_cons_zero, List.set_cons_succ]
      refine wpAnyH_done (by kernel_rfl) ?_ _
      dsimp only [nrm]
      have hD3 := hk3.kD
      have hbl3 := hk3.below
      clear hHeld3 hS hk1 hk2 hk3 hg0 hb1 hb2 hb3 hr2 hwo
      go_wp2_with fail
      refine ⟨by simp, .inl ⟨_, _, rfl, run_takeDeferred (w := x3) hD3, ?_⟩⟩
      refine ⟨_, results_tmp rfl _ _ _, rfl, ?_⟩
      exact hbl3.trans ((Only.putObj _ _ _).below hbl3.size (fun j hj e => by have e : j = D := e; omega))
  · exact absurd hl1 hl
theorem orders_calls (N : Nat) (hN : N ≤ 255) (A : Option Addr) (c : Nat) (es : List (Nat × Nat)) (W : World) (hA : Edges W A es) (hc : es.length ≤ c) :
    Calls Try.prog 10 #[.agg #[.int .u8 N, .slice A es.length c]] W fun e W' => e = .returned (.bool true) ∧ Below W.heap.size W W' := by
  by_cases hl : es.length ≤ 40
  · exact orders_near N hN A c es W hA hc hl
  · exact orders_far N A c es W hl
end Go.Proofs.Ytffnkbicbfjnpaa
