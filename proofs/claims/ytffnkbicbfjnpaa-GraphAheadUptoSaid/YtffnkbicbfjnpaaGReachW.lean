/- refinerylaw07.GraphReach: the walk. Conditions: the numbers are of their kinds. -/
import Derived.Test.YtffnkbicbfjnpaaGReachP
import Derived.Test.YtffnkbicbfjnpaaGOrdersW
namespace Go.Proofs.Ytffnkbicbfjnpaa
open Go.RowKit
attribute [local go_sem] Oper.semAt_some
/-- Three new blocks. -/
theorem three {w X : World} {o0 o1 o2 : Obj} (h : ((w.alloc o0).alloc o1).alloc o2 = X) :
    X.heap[w.heap.size]? = some o0 ∧ X.heap[w.heap.size + 1]? = some o1 ∧ X.heap[w.heap.size + 1 + 1]? = some o2 ∧ X.heap.size = w.heap.size + 3 ∧ Below w.heap.size w X := by
  subst h
  have n1 := heap_alloc_new' (w.alloc o0) o1
  have n2 := heap_alloc_new' ((w.alloc o0).alloc o1) o2
  simp only [World.size_alloc] at n1 n2
  exact ⟨alloc_old (alloc_old (heap_alloc_new' w o0)), alloc_old n1, n2, by simp, (((Below.refl _ _).alloc (Nat.le_refl _) _).alloc (by simp) _).alloc (by simp; omega) _⟩
/-- What the law keeps: the graph, its box, the number where to stop, the result's box, the marks. -/
structure RGL (W : World) (base n : Nat) (b a : List (List Nat)) (B q1 p1 sq sb st : Nat) (S : Nat → Prop) (l : List Nat) (X : World) : Prop where
  gr : Gr X base (.agg #[.slice (some ⟨q1, 0, none⟩) n n, .slice (some ⟨p1, 0, none⟩) n n]) b a S
  c0 : X.cell? ⟨B, 0, none⟩ = some (.slice (some ⟨q1, 0, none⟩) n n)
  c1 : X.cell? ⟨B, 1, none⟩ = some (.slice (some ⟨p1, 0, none⟩) n n)
  k1 : X.heap[W.heap.size + 1]? = some (.cells #[.int .u8 (st : Int)] 5 (0, 0))
  k2 : X.heap[W.heap.size + 1 + 1]? = some (.cells #[.bool false] 4 (0, 0))
  ks : X.heap[sb]? = some (.cells #[.slice (some ⟨sq, 0, none⟩) n n] 84 (0, 0))
  sn : Seen X sq (marks n l)
  below : Below W.heap.size W X
  lt : W.heap.size + 2 < B ∧ B < sq ∧ sq < sb ∧ ∀ g, S g → g < B
section
variable {W X X' : World} {base n : Nat} {b a : List (List Nat)} {B q1 p1 sq sb st : Nat} {S : Nat → Prop} {l : List Nat} {T : Nat → Prop}
theorem RGL.above (h : RGL W base n b a B q1 p1 sq sb st S l X) (ho : Only T X X') (hT : ∀ g, T g → sb < g) : RGL W base n b a B q1 p1 sq sb st S l X' := by
  have hl := h.lt
  have ne : ∀ g, g ≤ sb → ¬ T g := fun g hg e => by have := hT g e; omega
  have hB := World.block_lt_of_cell? X _ h.c0
  exact ⟨h.gr.only ho (fun g hg => ne g (by have := hl.2.2.2 g hg; omega)), (ho.cell (p := ⟨B, 0, none⟩) hB (ne _ (by show B ≤ sb; omega))).trans h.c0, (ho.cell (p := ⟨B, 1, none⟩) hB (ne _ (by show B ≤ sb; omega))).trans h.c1,
    (ho.block _ (lt_blk h.k1) (ne _ (by omega))).trans h.k1, (ho.block _ (lt_blk h.k2) (ne _ (by omega))).trans h.k2, (ho.block _ (lt_blk h.ks) (ne _ (Nat.le_refl _))).trans h.ks, h.sn.only ho (ne _ (by omega)),
    h.below.trans (ho.below h.below.size (fun k hk e => by have := hT k e; omega)), hl⟩
theorem RGL.later (h : RGL W base n b a B q1 p1 sq sb st S l X) (hb : Below X.heap.size X X') : RGL W base n b a B q1 p1 sq sb st S l X' :=
  h.above (Only.of_below hb) (fun g hg => by have := lt_blk h.ks; omega)
theorem RGL.mark (h : RGL W base n b a B q1 p1 sq sb st S l X) (x : Nat) : RGL W base n b a B q1 p1 sq sb st S (l ++ [x]) (X.setCell ⟨sq, x, none⟩ (.bool true)) := by
  have hl := h.lt
  have ho := Only.setCell X ⟨sq, x, none⟩ (.bool true)
  have ne : ∀ g, g ≠ sq → ¬ g = (⟨sq, x, none⟩ : Addr).block := fun g hg e => hg e
  have hB := World.block_lt_of_cell? X _ h.c0
  have hs := h.sn.set x true
  rw [marks_set] at hs
  exact ⟨h.gr.only ho (fun g hg => ne g (by have := hl.2.2.2 g hg; omega)), (ho.cell (p := ⟨B, 0, none⟩) hB (ne _ (by show B ≠ sq; omega))).trans h.c0, (ho.cell (p := ⟨B, 1, none⟩) hB (ne _ (by show B ≠ sq; omega))).trans h.c1,
    (ho.block _ (lt_blk h.k1) (ne _ (by omega))).trans h.k1, (ho.block _ (lt_blk h.k2) (ne _ (by omega))).trans h.k2, (ho.block _ (lt_blk h.ks) (ne _ (by omega))).trans h.ks, hs,
    h.below.trans (ho.below h.below.size (fun k hk e => by have e : k = sq := e; omega)), hl⟩
end
/-- A row is laid anew behind an empty one. -/
theorem row_copy {w : World} {base g : Nat} {A : Option Addr} {m c : Nat} {l : List Nat} (hg : w.heap[g]? = some (.cells #[] 3 (0, 0))) (h : RowAt w base 3 (.slice A m c) (l.map iv)) (hl : l.length ≤ 1048576) :
    ∃ v' w', (Builtin.append_ #[40, 40] 40 #[.slice (some ⟨g, 0, none⟩) 0 0, .slice A m c]).run Try.prog w = .ok v' w' ∧ RowAt w' g 3 v' (l.map iv) ∧ Only (fun k => k = g) w w' := by
  obtain ⟨i0, hi0, hz0, hz1, hz2⟩ := info_parts infoI
  have hown : w.ownsRow g 3 1 (.slice (some ⟨g, 0, none⟩) 0 0) 0 [] :=
    ⟨rfl, .inr ⟨g, 0, _, rfl, Nat.le_refl _, hg, Nat.le_refl _, by decide, rfl, rfl⟩⟩
  obtain ⟨hm, hrd⟩ := rowAt_read h
  rw [List.length_map] at hm
  obtain ⟨v', w', hr, r1, r2⟩ := append_read (P := Try.prog) 40 40 3 i0 (.int .i64 0) 8 Try.underlying40 hi0 hz0 hz1 hz2 rfl hown A c (l.map iv) hrd (one_iv l) (Nat.le_of_lt (lt_blk hg)) (by rw [List.length_map]; unfold maxLen; omega) (by rw [List.length_map]; omega)
  simp only [List.length_map, Nat.zero_add, List.nil_append] at hr r1
  rw [← hm] at hr r1
  exact ⟨v', w', hr, RowAt.of_own (by simpa using r1), (Only.grown r2).mono (fun k hk e => by simp [Value.ownBlock] at e; exact e.symm)⟩
/-- The same, behind the two walks over those that are met. -/
structure RFS (W : World) (base n : Nat) (b a : List (List Nat)) (B q1 p1 sq sb st : Nat) (S : Nat → Prop) (p : List Nat) (bm D E M : Nat) (X : World) : Prop where
  rg : RGL W base n b a B q1 p1 sq sb st S p X
  km : X.heap[bm]? = some (.cells #[.int .i64 (M : Int)] 3 (0, 0))
  kD : X.heap[D]? = some (.deferred (some []))
  kE : X.heap[E]? = some (.deferred (some []))
  lt2 : sb < D ∧ D < bm ∧ bm < E
theorem RFS.above {W X X' : World} {base n : Nat} {b a : List (List Nat)} {B q1 p1 sq sb st bm D E M : Nat} {S : Nat → Prop} {l : List Nat} {T : Nat → Prop} (h : RFS W base n b a B q1 p1 sq sb st S l bm D E M X) (ho : Only T X X') (hT : ∀ g, T g → E < g) : RFS W base n b a B q1 p1 sq sb st S l bm D E M X' := by
  have hl := h.lt2
  have ne : ∀ g, g ≤ E → ¬ T g := fun g hg e => by have := hT g e; omega
  exact ⟨h.rg.above ho (fun g hg => by have := hT g hg; omega), (ho.block _ (lt_blk h.km) (ne _ (by omega))).trans h.km, (ho.block _ (lt_blk h.kD) (ne _ (by omega))).trans h.kD, (ho.block _ (lt_blk h.kE) (ne _ (by omega))).trans h.kE, hl⟩
theorem RFS.later {W X X' : World} {base n : Nat} {b a : List (List Nat)} {B q1 p1 sq sb st bm D E M : Nat} {S : Nat → Prop} {l : List Nat} (h : RFS W base n b a B q1 p1 sq sb st S l bm D E M X) (hb : Below X.heap.size X X') : RFS W base n b a B q1 p1 sq sb st S l bm D E M X' :=
  h.above (Only.of_below hb) (fun g hg => by have := lt_blk h.kE; omega)
set_option maxHeartbeats 2000000 in
theorem reach_far (N st : Nat) (A : Option Addr) (c : Nat) (es : List (Nat × Nat)) (W : World) (hl : ¬ es.length ≤ 40) :
    Calls Try.prog 9 #[.agg #[.int .u8 N, .slice A es.length c], .int .u8 (st : Int)] W fun e W' => e = .returned (.bool true) ∧ Below W.heap.size W W' := by
  go_enter Try.func9, Try.ntmps9
  go_wp2_with fail
  generalize hX : World.alloc (World.alloc (World.alloc W _) _) _ = X
  obtain ⟨hx, hx1, hx2, hz, hbx⟩ := three hX
  have HX := Lib.hid (And.intro hx (And.intro hbx (And.intro hx1 hx2)))
  clear hX hx hx1 hx2 hbx hz
  refine (gawake_calls X).mono ?_
  rintro e W1 ⟨rfl, hb⟩
  have H1 := Lib.hid (And.intro ((hb.block _ (lt_blk HX.out.1)).trans HX.out.1) (And.intro (below_two HX.out.2.1 hb) (And.intro ((hb.block _ (lt_blk HX.out.2.2.1)).trans HX.out.2.2.1) ((hb.block _ (lt_blk HX.out.2.2.2)).trans HX.out.2.2.2))))
  clear hb HX
  have x0 := cell_of_blk _ _ _ _ _ H1.out.1 0
  have x1 := cell_of_blk _ _ _ _ _ H1.out.1 1
  simp at x0 x1
  go_wp2_with fail
  clear x0 x1
  refine (light_calls7 N A es.length c W1).mono ?_
  rintro e W2 ⟨rfl, hb⟩
  have hbel := below_two H1.out.2.1 hb
  have hr := (hb.block _ (lt_blk H1.out.2.2.2)).trans H1.out.2.2.2
  have x2 : W2.cell? ⟨W.heap.size + 1 + 1, 0, none⟩ = some (.bool false) := cell_of_blk _ _ _ _ _ hr 0
  have f2 : W2.frozen? ⟨W.heap.size + 1 + 1, 0, none⟩ = false := by simp [World.frozen?, hr]
  rw [decide_eq_false hl]
  clear hb H1
  go_wp2_with fail
  have v2 : (W2.setCell ⟨W.heap.size + 1 + 1, 0, none⟩ (.bool true)).cell? ⟨W.heap.size + 1 + 1, 0, none⟩ = some (.bool true) := by simp [World.setCell, World.cell?, Array.getElem?_modify, hr]
  exact bodyPost_ret (v := .bool true) (by simp [results, Try.results9, go_sem, v2]) rfl ⟨rfl, hbel.setCell (by show W.heap.size ≤ W.heap.size + 1 + 1; omega) _⟩
set_option linter.unusedSimpArgs false in
set_option maxRecDepth 100000 in
set_option maxHeartbeats 8000000 in
theorem reach_near (N : Nat) (hN : N ≤ 255) (st : Nat) (hst : st ≤ 255) (A : Option Addr) (c : Nat) (es : List (Nat × Nat)) (W : World) (hA : Edges W A es) (hc : es.length ≤ c) (hl1 : es.length ≤ 40) :
    Calls Try.prog 9 #[.agg #[.int .u8 N, .slice A es.length c], .int .u8 (st : Int)] W fun e W' => e = .returned (.bool true) ∧ Below W.heap.size W W' := by
  have HA := Lib.hid (And.intro hA (And.intro hc hN))
  clear hA hc hN
  refine (callsIn_wide (n := 3)).1 ?_
  refine callsIn_of_wp_marks Try.func9 rfl trivial ?_ rfl
  simp only [Try.ntmps9, List.size_toArray, List.length_cons, List.length_nil, Nat.reduceAdd, Nat.reduceSub, Array.replicate_succ, Array.replicate_zero, List.push_toArray, List.append_toArray, List.nil_append, List.cons_append]
  refine wpIn_wide.2 ?_
  go_wp2_with fail
  generalize hX : World.alloc (World.alloc (World.alloc W _) _) _ = X
  obtain ⟨hx, hx1, hx2, hz, hbx⟩ := three hX
  have HX := Lib.hid (And.intro hx (And.intro hbx (And.intro hx1 hx2)))
  clear hX hx hx1 hx2 hbx hz
  refine (gawake_calls X).mono ?_
  rintro e W1 ⟨rfl, hb⟩
  have H1 := Lib.hid (And.intro ((hb.block _ (lt_blk HX.out.1)).trans HX.out.1) (And.intro (below_two HX.out.2.1 hb) (And.intro ((hb.block _ (lt_blk HX.out.2.2.1)).trans HX.out.2.2.1) ((hb.block _ (lt_blk HX.out.2.2.2)).trans HX.out.2.2.2))))
  clear hb HX
  have x0 := cell_of_blk _ _ _ _ _ H1.out.1 0
  have x1 := cell_of_blk _ _ _ _ _ H1.out.1 1
  simp at x0 x1
  go_wp2_with fail
  clear x0 x1
  refine (light_calls7 N A es.length c W1).mono ?_
  rintro e W2 ⟨rfl, hb⟩
  have H2 := Lib.hid (And.intro ((hb.block _ (lt_blk H1.out.1)).trans H1.out.1) (below_two H1.out.2.1 hb))
  have HK2 := Lib.hid (And.intro ((hb.block _ (lt_blk H1.out.2.2.1)).trans H1.out.2.2.1) ((hb.block _ (lt_blk H1.out.2.2.2)).trans H1.out.2.2.2))
  clear hb H1
  have hl := hl1
  · rw [decide_eq_true hl]
    have x0 := cell_of_blk _ _ _ _ _ H2.out.1 0
    have x1 := cell_of_blk _ _ _ _ _ H2.out.1 1
    simp at x0 x1
    go_wp2_with fail
    clear x0 x1
    refine (small_calls N HA.out.2.2 A c es W2 (HA.out.1.later H2.out.2) HA.out.2.1 (by omega)).mono ?_
    rintro e W3 ⟨gv, q, vs, S, rfl, hg, hm, hap, hb3⟩
    obtain ⟨n, hn⟩ : ∃ n, 1 + N % 12 = n := ⟨_, rfl⟩
    have hn0 : 0 < n := by omega
    have hn12 : n ≤ 12 := by omega
    rw [hn] at hg hm ⊢
    have hrw := graph_rows n hn0 es
    generalize graphB n es = b at *
    generalize graphA n es = a at *
    obtain ⟨q1, p1, rfl⟩ := hg.form
    rw [hrw.lb] at hg ⊢
    have HG := Lib.hid (And.intro (hg.lower H2.out.2.size) (And.intro (hm.lower H2.out.2.size) (And.intro (H2.out.2.trans (hb3.mono H2.out.2.size)) (And.intro hrw hap))))
    have HK3 := Lib.hid (And.intro ((hb3.block _ (lt_blk HK2.out.1)).trans HK2.out.1) ((hb3.block _ (lt_blk HK2.out.2)).trans HK2.out.2))
    have hmk := mk_falses n (by omega)
    have hn1 : (n : Int) ≤ 1048576 := by omega
    clear hg hm hap hb3 hrw H2 hn HA
    go_wp2_with fail
    generalize hX : World.alloc (World.alloc (World.alloc W3 _) _) _ = X
    obtain ⟨y0, y1, y2, yz, yb⟩ := three hX
    clear hX
    obtain ⟨B, hB⟩ : ∃ B, W3.heap.size = B := ⟨_, rfl⟩
    obtain ⟨sq, h4⟩ : ∃ k, B + 1 = k := ⟨_, rfl⟩
    obtain ⟨sb, h5⟩ : ∃ k, sq + 1 = k := ⟨_, rfl⟩
    have hSl : ∀ g, S g → g < B := fun g hg => hB ▸ (HG.out.1.lt hg).1
    have hWB : W.heap.size + 1 + 1 < B := hB ▸ lt_blk HK3.out.2
    rw [hB] at y0 y1 y2 yz
    rw [hB]
    rw [h4] at y1 y2
    rw [h5] at y2
    rw [h4, h5]
    have hlb := HG.out.2.2.2.1.lb
    have hfew : Few b := HG.out.2.2.2.1.fewOf (by omega)
    have hrp := reach_plain hn0 hlb hfew
    have hrg : RGL W W.heap.size n b a B q1 p1 sq sb st S [] X := ⟨HG.out.1.later yb, cell_of_blk _ _ _ _ _ y0 0, cell_of_blk _ _ _ _ _ y0 1, (yb.block _ (lt_blk HK3.out.1)).trans HK3.out.1, (yb.block _ (lt_blk HK3.out.2)).trans HK3.out.2, y2, by rw [marks_nil]; exact falses_seen y1, HG.out.2.2.1.trans (yb.mono HG.out.2.2.1.size), by omega, by omega, by omega, hSl⟩
    have hwf := WF.gives hrg.gr hfew
    have HRG := Lib.hid hrg
    have HF := Lib.hid (And.intro hlb hfew)
    have HWF := Lib.hid hwf
    have HRP := Lib.hid hrp
    clear y0 y1 y2 yz yb h4 h5 hSl hWB hlb hfew hrp hrg hwf HK3 HG hmk
    refine HWF.out.mono ?_
    rintro e W7 ⟨Bx, vx, rfl, hx1, hx2, hx3, hx4⟩
    rw [HF.out.1] at hx3
    obtain ⟨Ax, cx, rfl, _, _, _⟩ := rowAt_slice hx3
    simp only [List.length_map] at hx1 hx3
    obtain ⟨p, hp⟩ : ∃ p, (dfs0 (nb b) n).pre = p := ⟨_, rfl⟩
    rw [hp] at hx1 hx3 HRP
    have hmax' : (ivs p).length ≤ maxLen := by rw [ivs_len]; exact (rowAt_cells hx3).2.2
    have hrg := HRG.out.later hx4
    have hXs := lt_blk HRG.out.ks
    obtain ⟨D, hD⟩ : ∃ D, W7.heap.size = D := ⟨_, rfl⟩
    have hsx : sb < D := hD ▸ lt_blk hrg.ks
    have H7 := Lib.hid (And.intro hrg (And.intro hx1 (And.intro (show sb < Bx by omega) (And.intro hx3 hXs))))
    clear hx1 hx2 hx3 hx4 hrg hXs HWF HRG
    go_wp2_with fail
    have hrd : Hid (∀ W', Only (fun j => j = sq) W7 W' → SI.CellsAt Ax (ivs p) W' ∧ W'.cell? ⟨Bx, 0, none⟩ = some (.slice Ax (ivs p).length cx)) := by
      refine Lib.hid (fun W' hO => ?_)
      have hlt := H7.out.1.lt
      have hr := H7.out.2.2.2.1.only hO (fun g hg e => by have := (H7.out.2.2.2.1.lt hg).2; have := H7.out.2.2.2.2; have e : g = sq := e; omega)
      refine ⟨(rowAt_cells hr).2.1, ?_⟩
      rw [hO.cell (p := ⟨Bx, 0, none⟩) (lt_blk H7.out.2.1) (by have := H7.out.2.2.1; show ¬ Bx = sq; omega), cell_of_blk _ _ _ _ _ H7.out.2.1, ivs_len]; rfl
    refine (wpIn_wide (n := 3)).1 ?_
    generalize hact : (Act.mk _ _ : Act) = a0
    refine wpIn_rf_steps (n := 3) rfl (by omega) (gf := 111) (lb := #[.pointer (some ⟨Bx, 0, none⟩)]) (by rw [← hact]; rfl) trivial (enters_of Try.func111 (by kernel_rfl) rfl) (encs := SI.encs (ivs p)) (N := (ivs p).length) (fun _ => rfl)
      (Rd := fun W' => SI.CellsAt Ax (ivs p) W' ∧ W'.cell? ⟨Bx, 0, none⟩ = some (.slice Ax (ivs p).length cx))
      (fun J Jx hR hY W' hJ => SI.values_in 2 Bx _ Ax cx (ivs p) hmax' J Jx (fun k W' h => (hR k W' h).1) hY W' (hR 0 W' hJ).2 hJ)
      (fun k W' => RGL W W.heap.size n b a B q1 p1 sq sb st S (p.take k) W' ∧ Only (fun j => j = sq) W7 W')
      (fun _ _ _ => False)
      ?rd ?I ?Ix ?start (fun k a' W' => ∃ x : Nat, p[k]? = some x ∧ a' = Act.mk ((a0.tmps.setIfInBounds 29 (.int .i64 (x : Int))).setIfInBounds 8 (.int .i64 (x : Int))) []) ?Ax ?assign ?body ?done ?stop
    case rd => exact fun k W' h => hrd.out W' h.2
    case I =>
      rw [hD]
      rintro k X Y ⟨h1, h3⟩ hO
      exact ⟨h1.above hO (fun g hg => by omega), h3.trans hO (fun x hx e => by omega)⟩
    case Ix => exact fun c k X Y h _ => h
    case start =>
      rintro W' hO hlt
      exact ⟨by rw [List.take_zero]; exact H7.out.1.above hO (fun _ h => h.elim), hO.mono (fun _ _ h => h.elim)⟩
    case Ax => exact fun k a' A B h _ => h
    case assign =>
      intro k W' K hk hI _ hK
      obtain ⟨x, hx⟩ : ∃ x, p[k]? = some x := ⟨_, List.getElem?_eq_getElem (by rw [ivs_len] at hk; exact hk)⟩
      have HY := Lib.hid hx
      have he : SI.encs (ivs p) k = #[.int .i64 (x : Int)] := by simp [SI.encs, ivs, hx]
      rw [he]
      clear hx he
      subst hact
      gi_wp2
      exact hK _ _ (Only.refl _ _) ⟨x, HY.out, rfl⟩
    case body =>
      rw [hD]
      rintro k a' W' hk ⟨h1, h3⟩ ⟨x, hx, rfl⟩ hDd ⟨r, hDl⟩
      subst hact
      simp only [List.setIfInBounds_toArray, List.set_cons_zero, List.set_cons_succ]
      have hkp : k < p.length := by rw [ivs_len] at hk; exact hk
      have hxn : x < n := HRP.out.lt x (List.mem_of_getElem? hx)
      have hyt : x ∉ p.take k := fun hm => by
        obtain ⟨j, hj, e⟩ := List.getElem_of_mem hm
        rw [List.getElem_take] at e
        have hj' : j < k ∧ j < p.length := by simp at hj; omega
        have hk2 := (List.getElem?_eq_some_iff.1 hx).2
        have := List.pairwise_iff_getElem.1 HRP.out.nd j k hj'.2 hkp hj'.1
        exact this (e.trans hk2.symm)
      have hlt := h1.lt
      have hcs := cell_of_blk _ _ _ _ _ h1.ks 0
      have hcx := h1.sn.cell x (by rw [marks_len]; exact hxn)
      rw [marks_get _ hxn, decide_eq_false hyt] at hcx
      have hfx := h1.sn.frozen x
      have q0 : 0 ≤ (x : Int) := by omega
      have q2 : (x : Int) < (n : Int) := by omega
      have hfin : rfPost D (fun W' => RGL W W.heap.size n b a B q1 p1 sq sb st S (p.take (k + 1)) W' ∧ Only (fun j => j = sq) W7 W') (fun _ _ => False) W' .normal ⟨#[], []⟩ (W'.setCell ⟨sq, x, none⟩ (.bool true)) := by
        have ho := Only.setCell W' ⟨sq, x, none⟩ (.bool true)
        have hD1 := lt_blk hDl
        refine ⟨ho.block D (by omega) (fun e => by have e : D = sq := e; omega), ho.block (D + 1) (by omega) (fun e => by have e : D + 1 = sq := e; omega), ?_, h3.trans ho (fun j hj e => e)⟩
        rw [take_snoc' p k x hx]; exact h1.mark x
      have HFIN := Lib.hid hfin
      clear hfin h1 h3 hx hDd hDl hyt hlt hxn
      gi_wp2_with fail
      exact HFIN.out
    case stop => exact fun c k W' h _ => h.elim
    case done =>
      rw [hD]
      rintro W' ⟨h1, h3⟩ hDd
      rw [ivs_len, List.take_length] at h1
      subst hact
      clear h3 hrd
      have g0 := h1.c0
      have g1 := h1.c1
      have hBlt : B < W'.heap.size := World.block_lt_of_cell? W' _ g0
      have HD := Lib.hid (And.intro h1 hDd)
      clear h1 hDd hmax' H7
      go_wp2_with fail
      clear g0 g1 hBlt
      generalize hY : World.alloc W' _ = Y
      obtain ⟨hy, hby, hyz⟩ := boxed hY rfl
      obtain ⟨bm, hbm⟩ : ∃ k, W'.heap.size = k := ⟨_, rfl⟩
      have hwf := WF.gives (HD.out.1.later hby).gr HF.out.2
      have hDm : D < bm := hbm ▸ lt_blk HD.out.2
      have HY := Lib.hid (And.intro (HD.out.1.later hby) (And.intro ((hby.block _ (lt_blk HD.out.2)).trans HD.out.2) (And.intro (hbm ▸ hy) (hbm ▸ hyz))))
      have HWF := Lib.hid hwf
      rw [hbm]
      clear hY hy hby hyz hbm hwf HD
      refine HWF.out.mono ?_
      rintro e W8 ⟨Bz, vz, rfl, hx1, hx2, hx3, hx4⟩
      rw [HF.out.1, hp] at hx3
      obtain ⟨Az, cz, rfl, _, _, _⟩ := rowAt_slice hx3
      simp only [List.length_map] at hx1 hx3
      have hmax' : (ivs p).length ≤ maxLen := by rw [ivs_len]; exact (rowAt_cells hx3).2.2
      obtain ⟨E, hE⟩ : ∃ E, W8.heap.size = E := ⟨_, rfl⟩
      have hm8 := (hx4.block bm (lt_blk HY.out.2.2.1)).trans HY.out.2.2.1
      have hmE : bm < E := hE ▸ lt_blk hm8
      have H8 := Lib.hid (And.intro (HY.out.1.later hx4) (And.intro ((hx4.block D (lt_blk HY.out.2.1)).trans HY.out.2.1) (And.intro hm8 (And.intro hx1 (And.intro (show bm < Bz by have := HY.out.2.2.2; omega) (And.intro hx3 HY.out.2.2.2))))))
      clear hx1 hx2 hx3 hx4 hm8 HWF HY
      go_wp2_with fail
      have hrd : Hid (∀ W', Only (fun j => j = bm) W8 W' → SI.CellsAt Az (ivs p) W' ∧ W'.cell? ⟨Bz, 0, none⟩ = some (.slice Az (ivs p).length cz)) := by
        refine Lib.hid (fun W' hO => ?_)
        have hr := H8.out.2.2.2.2.2.1.only hO (fun g hg e => by have := (H8.out.2.2.2.2.2.1.lt hg).2; have := H8.out.2.2.2.2.2.2; have e : g = bm := e; omega)
        refine ⟨(rowAt_cells hr).2.1, ?_⟩
        rw [hO.cell (p := ⟨Bz, 0, none⟩) (lt_blk H8.out.2.2.2.1) (by have := H8.out.2.2.2.2.1; show ¬ Bz = bm; omega), cell_of_blk _ _ _ _ _ H8.out.2.2.2.1, ivs_len]; rfl
      refine (wpIn_wide (n := 3)).1 ?_
      generalize hact : (Act.mk _ _ : Act) = a1
      refine wpIn_rf_steps (n := 3) rfl (by omega) (gf := 111) (lb := #[.pointer (some ⟨Bz, 0, none⟩)]) (by rw [← hact]; rfl) trivial (enters_of Try.func111 (by kernel_rfl) rfl) (encs := SI.encs (ivs p)) (N := (ivs p).length) (fun _ => rfl)
        (Rd := fun W' => SI.CellsAt Az (ivs p) W' ∧ W'.cell? ⟨Bz, 0, none⟩ = some (.slice Az (ivs p).length cz))
        (fun J Jx hR hY W' hJ => SI.values_in 2 Bz _ Az cz (ivs p) hmax' J Jx (fun k W' h => (hR k W' h).1) hY W' (hR 0 W' hJ).2 hJ)
        (fun k W' => k ≤ st % 5 ∧ W'.heap[bm]? = some (.cells #[.int .i64 (k : Int)] 3 (0, 0)) ∧ Only (fun j => j = bm) W8 W')
        (fun cc k W' => cc = .exit 2 ∧ k = st % 5 + 1 ∧ k ≤ p.length ∧ W'.heap[bm]? = some (.cells #[.int .i64 (k : Int)] 3 (0, 0)) ∧ Only (fun j => j = bm) W8 W')
        ?rd ?I ?Ix ?start (fun k a' W' => ∃ x : Nat, p[k]? = some x ∧ a' = Act.mk (a1.tmps.setIfInBounds 39 (.int .i64 (x : Int))) []) ?Ax ?assign ?body ?done ?stop
      case rd => exact fun k W' h => hrd.out W' h.2.2
      case I =>
        rw [hE]
        rintro k X Y ⟨h0, h1, h3⟩ hO
        exact ⟨h0, (hO.block bm (lt_blk h1) (by omega)).trans h1, h3.trans hO (fun x hx e => by omega)⟩
      case Ix =>
        rw [hE]
        rintro cc k X Y ⟨e0, e1, h0, h1, h3⟩ hO
        exact ⟨e0, e1, h0, (hO.block bm (lt_blk h1) (by omega)).trans h1, h3.trans hO (fun x hx e => by omega)⟩
      case start =>
        rintro W' hO hlt
        exact ⟨Nat.zero_le _, (hO.block bm (by omega) id).trans H8.out.2.2.1, hO.mono (fun _ _ h => h.elim)⟩
      case Ax => exact fun k a' A B h _ => h
      case assign =>
        intro k W' K hk hI _ hK
        obtain ⟨x, hx⟩ : ∃ x, p[k]? = some x := ⟨_, List.getElem?_eq_getElem (by rw [ivs_len] at hk; exact hk)⟩
        have HY := Lib.hid hx
        have he : SI.encs (ivs p) k = #[.int .i64 (x : Int)] := by simp [SI.encs, ivs, hx]
        rw [he]
        clear hx he
        subst hact
        gi_wp2
        exact hK _ _ (Only.refl _ _) ⟨x, HY.out, rfl⟩
      case body =>
        rw [hE]
        rintro k a' W' hk ⟨h0, h1, h3⟩ ⟨x, hx, rfl⟩ hDd ⟨r, hDl⟩
        subst hact
        simp only [List.setIfInBounds_toArray, List.set_cons_zero, List.set_cons_succ]
        have hkp : k < p.length := by rw [ivs_len] at hk; exact hk
        have hpn := HRP.out.le
        have hcm := cell_of_blk _ _ _ _ _ h1 0
        have hfm : W'.frozen? ⟨bm, 0, none⟩ = false := by simp [World.frozen?, h1]
        have hk1 := lt_blk h1
        have hrg := H8.out.1.above h3 (fun g hg => by have e : g = bm := hg; omega)
        have hcs := cell_of_blk _ _ _ _ _ hrg.k1 0
        have hsm : W.heap.size + 1 ≠ bm := by have := hrg.lt; omega
        have k0 : 0 ≤ (k : Int) := by omega
        have k4 : (k : Int) ≤ 4 := by omega
        have hw : IntKind.i64.wrap ((k : Int) + 1) = ((k + 1 : Nat) : Int) := by rw [IntKind.wrap_i64]; omega
        simp at hcm hcs
        clear hrg
        have ho := Only.setCell W' ⟨bm, 0, none⟩ (.int .i64 ((k : Int) + 1))
        have hset : (W'.setCell ⟨bm, 0, none⟩ (.int .i64 ((k : Int) + 1))).heap[bm]? = some (.cells #[.int .i64 ((k + 1 : Nat) : Int)] 3 (0, 0)) := by simp [World.setCell, Array.getElem?_modify, h1]
        have hE1 := lt_blk hDl
        have hb1 := ho.block E (by omega) (fun e => by have e : E = bm := e; omega)
        have hb2 := ho.block (E + 1) hE1 (fun e => by have e : E + 1 = bm := e; omega)
        have h4 : Only (fun j => j = bm) W8 (W'.setCell ⟨bm, 0, none⟩ (.int .i64 ((k : Int) + 1))) := h3.trans ho (fun j hj e => e)
        have HH := Lib.hid (And.intro h4 (And.intro hset (And.intro hb1 hb2)))
        clear ho hset hb1 hb2 h4 h1 h3 hx hDd hDl hE1
        gi_wp2_with fail
        · rename_i hq
          exact ⟨HH.out.2.2.1, HH.out.2.2.2, rfl, by omega, by omega, HH.out.2.1, HH.out.1⟩
        · rename_i hq
          exact ⟨HH.out.2.2.1, HH.out.2.2.2, by omega, HH.out.2.1, HH.out.1⟩
      case stop =>
        rw [hE]
        rintro cc M W' ⟨rfl, e1, h0, h1, h3⟩ hDd
        have hM : M = min p.length (1 + st % 5) := by omega
        refine wpIn_wide.2 ?_
        have hS : RFS W W.heap.size n b a B q1 p1 sq sb st S p bm D E M W' := ⟨H8.out.1.above h3 (fun g hg => by have e : g = bm := hg; omega), h1, (h3.block D (lt_blk H8.out.2.1) (by omega)).trans H8.out.2.1, hDd, by omega⟩
        have HS := Lib.hid (And.intro hS hM)
        have g0 := hS.rg.c0
        have g1 := hS.rg.c1
        have hBlt : B < W'.heap.size := World.block_lt_of_cell? W' _ g0
        subst hact
        clear hS hM h1 h3 hDd H8 hrd hmax'
        go_wp2_with fail
        clear g0 g1 hBlt
        generalize hZ : World.alloc W' _ = Z
        have hz0 : Z.heap[W'.heap.size]? = some (.cells #[] 3 (0, 0)) := by rw [← hZ]; exact heap_alloc_new' W' _
        have hbz : Below W'.heap.size W' Z := by rw [← hZ]; exact (Below.refl _ _).alloc (Nat.le_refl _) _
        obtain ⟨G, hG⟩ : ∃ G, W'.heap.size = G := ⟨_, rfl⟩
        have hEG : E < G := hG ▸ lt_blk HS.out.1.kE
        have hwo := WO.gives (HS.out.1.later hbz).rg.gr HF.out.2
        have HWO := Lib.hid hwo
        have HZ := Lib.hid (And.intro (HS.out.1.later hbz) (And.intro HS.out.2 (hG ▸ hz0)))
        rw [hG]
        clear hZ hz0 hbz hwo hG HS
        refine HWO.out.mono ?_
        rintro e Z1 ⟨v1, rfl, hr1, hb1⟩
        rw [HF.out.1] at hr1
        obtain ⟨A1, c1, rfl, _, _, _⟩ := rowAt_slice hr1
        simp only [List.length_map] at hr1
        obtain ⟨o, ho⟩ : ∃ o, (dfs0 (nb b) n).post.reverse = o := ⟨_, rfl⟩
        have hord := HRP.out.ord
        rw [ho] at hr1 hord
        rw [ho, List.length_map]
        have hol : o.length ≤ 1048576 := by
          have h1 := HRP.out.le
          have h2 := HRP.out.len
          have h3 := sortN_len o
          rw [hord] at h3
          omega
        obtain ⟨v2, Z2, hrun, hr2, ho2⟩ := row_copy ((hb1.block G (lt_blk HZ.out.2.2)).trans HZ.out.2.2) hr1 hol
        obtain ⟨A2, c2, rfl, _, _, _⟩ := rowAt_slice hr2
        simp only [List.length_map] at hr2 hrun
        have HRUN := Lib.hid hrun
        have hz2 := (HZ.out.1.later hb1).above ho2 (fun g hg => by have e : g = G := hg; omega)
        have HSORT := Lib.hid (sortG hr2 hol)
        have HZ2 := Lib.hid (And.intro hz2 (And.intro HZ.out.2.1 (And.intro hr2 (And.intro hord hol))))
        clear hr1 hb1 hord ho hol hrun hr2 ho2 hz2 HWO HZ
        go_wp2_with (first | (at_builtin; refine Lib.wpList_append_run _ rfl _ _ _ _ rfl _ _ rfl rfl _ _ HRUN.out ?_) | fail)
        refine HSORT.out.mono ?_
        rintro e Z3 ⟨rfl, hr3, ho3⟩
        have hz3 := HZ2.out.1.above ho3 (fun g hg => by have := (HZ2.out.2.2.1.lt hg).2; omega)
        have hr3' : RowAt Z3 G 3 (.slice A2 o.length c2) ((upto p n).map iv) := by rw [← HZ2.out.2.2.2.1]; exact hr3
        have hol : o.length = (upto p n).length := by rw [← HZ2.out.2.2.2.1, sortN_len]
        rw [hol] at hr3'
        rw [hol]
        have HZ3 := Lib.hid (And.intro hz3 (And.intro HZ2.out.2.1 hr3'))
        have g0 := hz3.rg.c0
        have g1 := hz3.rg.c1
        clear hr3 ho3 hz3 hr3' hol HSORT HRUN HZ2
        go_wp2_with fail
        have hre := reached_calls HZ3.out.1.rg.gr HF.out.2
        rw [HF.out.1, HRP.out.seen] at hre
        refine hre.mono ?_
        rintro e Z4 ⟨q6, rfl, hs6, hq6, hb6⟩
        have hz4 := HZ3.out.1.later hb6
        have hr4 := HZ3.out.2.2.only (Only.of_below hb6) (fun g hg e => by have := (HZ3.out.2.2.lt hg).1; omega)
        have HZ4 := Lib.hid (And.intro hz4 (And.intro HZ3.out.2.1 (And.intro hr4 hs6)))
        clear g0 g1 hre hs6 hq6 hb6 hz4 hr4 HZ3
        go_wp2_with fail
        go_loopw [56, 11] (fun v u wr => ∃ i : Nat, v = .int .i64 (i : Int) ∧ u = .int .i64 ((upto p i).length : Int) ∧ Hid (i ≤ n ∧ Below Z4.heap.size Z4 wr)) (fun v _ _ => n - (intOf v).toNat)
        case atStart => exact ⟨0, rfl, by simp [upto], Lib.hid ⟨Nat.zero_le _, Below.refl _ _⟩⟩
        case round =>
          obtain ⟨i, rfl, rfl, HI⟩ := hrel
          have hz := HZ4.out.1.later HI.out.2
          have hr := HZ4.out.2.2.1.only (Only.of_below HI.out.2) (fun g hg e => by have := (HZ4.out.2.2.1.lt hg).1; omega)
          have hs := HZ4.out.2.2.2.only (Only.of_below HI.out.2) (fun e => by have := lt_blk HZ4.out.2.2.2; omega)
          by_cases hi : i < n
          · have pp1 : ((i : Int) < (n : Int)) = True := eq_true (by omega)
            have i0 : 0 ≤ (i : Int) := by omega
            have i1 : (i : Int) < (n : Int) := by omega
            have hcs := cell_of_blk _ _ _ _ _ hz.rg.ks 0
            have hc1 := hz.rg.sn.cell i (by rw [marks_len]; exact hi)
            have hc2 := hs.cell i (by rw [marks_len]; exact hi)
            rw [marks_get _ hi] at hc1 hc2
            simp at hcs
            by_cases hm : i ∈ p
            · rw [decide_eq_true hm] at hc1 hc2
              have hat := upto_at p hm hi
              obtain ⟨kk, hkk⟩ : ∃ kk, (upto p i).length = kk := ⟨_, rfl⟩
              rw [hkk] at hat ⊢
              have hkl : kk < (upto p n).length := (List.getElem?_eq_some_iff.1 hat).1
              obtain ⟨g0, o0, rfl⟩ : ∃ g o, A2 = some ⟨g, o, none⟩ := by
                rcases hr with ⟨h1, h2⟩ | ⟨g, o, cap, cur, h1, _⟩
                · have : upto p n = [] := by simpa using h2
                  rw [this] at hkl; simp at hkl
                · injection h1 with h1; exact ⟨g, o, h1⟩
              have hc3 := hr.cell kk (iv i) (by rw [List.getElem?_map, hat]; rfl)
              unfold iv at hc3
              have q0 : 0 ≤ (kk : Int) := by omega
              have q1' : (kk : Int) < ((upto p n).length : Int) := by omega
              have q3 : ¬ ((upto p n).length : Int) ≤ (kk : Int) := by omega
              have HN := Lib.hid (show (upto p (i + 1)).length = kk + 1 by rw [upto_succ, if_pos hm, List.length_append, hkk]; rfl)
              have hun : (upto p n).length ≤ 1048576 := by have := HRP.out.len; have := HRP.out.le; omega
              clear hz hr hs hm hat hkk hkl
              go_wp2_with fail
              go_roundw
              case rel => exact ⟨i + 1, by go_num, by rw [HN.out]; go_num, Lib.hid ⟨by omega, HI.out.2⟩⟩
              case measure => simp [intOf]; omega
            · rw [decide_eq_false hm] at hc1 hc2
              have HN := Lib.hid (show (upto p (i + 1)).length = (upto p i).length by rw [upto_succ, if_neg hm])
              clear hz hr hs hm
              go_wp2_with fail
              go_roundw
              case rel => exact ⟨i + 1, by go_num, by rw [HN.out], Lib.hid ⟨by omega, HI.out.2⟩⟩
              case measure => simp [intOf]; omega
          · obtain rfl : i = n := by have := HI.out.1; omega
            have pp1 : ((i : Int) < (i : Int)) = False := eq_false (by omega)
            have hbm := cell_of_blk _ _ _ _ _ hz.km 0
            have hst1 := cell_of_blk _ _ _ _ _ hz.rg.k1 0
            simp at hbm hst1
            have hup := HRP.out.len
            have hmin : min (p.length : Int) (1 + (st : Int) % 5) = (M : Int) := by have := HZ4.out.2.1; omega
            have hwr : IntKind.i64.wrap (1 + (st : Int) % 5) = 1 + (st : Int) % 5 := by rw [IntKind.wrap_i64]; omega
            rw [hup]
            have HZ5 := Lib.hid hz
            clear hr hs hz hup
            go_wp2_with fail
            clear hbm hst1 pp1
            refine (new_calls 0 (by decide) wr).mono ?_
            rintro e y4 ⟨gv, rfl, ⟨S4, hg4⟩, hc4⟩
            obtain ⟨q5, p5, rfl⟩ := hg4.form
            simp only [List.length_replicate]
            go_wp2_with fail
            refine (len_calls q5 0 p5 0 0 0 _).mono ?_
            rintro e y5 ⟨rfl, hc5⟩
            have hy5 := (HZ5.out.later hc4).later hc5
            have HY5 := Lib.hid hy5
            clear hc4 hc5 hg4 hy5
            go_wp2_with fail
            refine (new_calls 0 (by decide) y5).mono ?_
            rintro e y6 ⟨gv, rfl, ⟨S6, hg6⟩, hc6⟩
            obtain ⟨q6', p6', rfl⟩ := hg6.form
            simp only [List.length_replicate]
            go_wp2_with fail
            refine (WO.gives hg6 ⟨by simp, fun i l h => by simp at h⟩).mono ?_
            rintro e y7 ⟨v7, rfl, hr7, hc7⟩
            have hr7' : RowAt y7 y6.heap.size 3 v7 ([] : List Value) := by simpa [dfs0, dst0] using hr7
            obtain ⟨A7, c7, rfl, _, _, _⟩ := rowAt_slice hr7'
            have hy7 := (HY5.out.later hc6).later hc7
            have hck := cell_of_blk _ _ _ _ _ hy7.rg.k2 0
            have hfk : y7.frozen? ⟨W.heap.size + 1 + 1, 0, none⟩ = false := by have := hy7.rg.k2; simp [World.frozen?, this]
            have HY7 := Lib.hid hy7
            simp only [List.length_nil]
            simp at hck
            clear hg6 hr7 hr7' hc6 hc7 hy7
            go_wp2_with fail
            have hll := HY7.out.lt2
            have hlr := HY7.out.rg.lt
            have hEs : E < y7.heap.size := lt_blk HY7.out.kE
            have hcB : (y7.setCell ⟨W.heap.size + 1 + 1, 0, none⟩ (.bool true)).cell? ⟨W.heap.size + 1 + 1, 0, none⟩ = some (.bool true) := by have := HY7.out.rg.k2; simp [World.setCell, World.cell?, Array.getElem?_modify, this]
            have hos := Only.setCell y7 ⟨W.heap.size + 1 + 1, 0, none⟩ (.bool true)
            have hbl : Below W.heap.size W (y7.setCell ⟨W.heap.size + 1 + 1, 0, none⟩ (.bool true)) := HY7.out.rg.below.setCell (by show W.heap.size ≤ W.heap.size + 1 + 1; omega) _
            have hkE := (hos.block E hEs (fun e => by have e : E = W.heap.size + 1 + 1 := e; omega)).trans HY7.out.kE
            have hkD := (hos.block D (by omega) (fun e => by have e : D = W.heap.size + 1 + 1 := e; omega)).trans HY7.out.kD
            have hsz := hos.size
            generalize y7.setCell ⟨W.heap.size + 1 + 1, 0, none⟩ (.bool true) = Wf at *
            have hEs2 : E < Wf.heap.size := lt_blk hkE
            have hP1 := Only.putObj Wf E (.deferred none)
            have hD2 : (Wf.putObj E (.deferred none)).heap[D]? = some (.deferred (some [])) := (World.putObj_heap_other (by omega)).trans hkD
            have hP2 := Only.putObj (Wf.putObj E (.deferred none)) D (.deferred none)
            have hq : ((Wf.putObj E (.deferred none)).putObj D (.deferred none)).cell? ⟨W.heap.size + 1 + 1, 0, none⟩ = some (.bool true) := by
              rw [hP2.cell (p := ⟨W.heap.size + 1 + 1, 0, none⟩) (by simp; omega) (by show ¬ (W.heap.size + 1 + 1 = D); omega), hP1.cell (p := ⟨W.heap.size + 1 + 1, 0, none⟩) (by show W.heap.size + 1 + 1 < _; omega) (by show ¬ (W.heap.size + 1 + 1 = E); omega)]
              exact hcB
            refine ⟨by simp, .inl ⟨_, _, rfl, run_takeDeferred hkE, ?_⟩⟩
            refine ⟨by simp, .inl ⟨_, _, rfl, run_takeDeferred hD2, ?_⟩⟩
            refine ⟨_, by simp [results, Try.results9, go_sem, hq], rfl, ?_⟩
            exact (hbl.trans (hP1.below (by have := hbl.size; omega) (fun k hk e => by have e : k = E := e; omega))).trans (hP2.below (by have := hbl.size; simp; omega) (fun k hk e => by have e : k = D := e; omega))
      case done =>
        rw [hE]
        rintro W' ⟨h0, h1, h3⟩ hDd
        obtain ⟨M, hMp⟩ : ∃ M, (ivs p).length = M := ⟨_, rfl⟩
        rw [hMp] at h0 h1
        have hM : M = min p.length (1 + st % 5) := by rw [ivs_len] at hMp; omega
        clear hMp h0
        have hS : RFS W W.heap.size n b a B q1 p1 sq sb st S p bm D E M W' := ⟨H8.out.1.above h3 (fun g hg => by have e : g = bm := hg; omega), h1, (h3.block D (lt_blk H8.out.2.1) (by omega)).trans H8.out.2.1, hDd, by omega⟩
        have HS := Lib.hid (And.intro hS hM)
        have g0 := hS.rg.c0
        have g1 := hS.rg.c1
        have hBlt : B < W'.heap.size := World.block_lt_of_cell? W' _ g0
        subst hact
        clear hS hM h1 h3 hDd H8 hrd hmax'
        go_wp2_with fail
        clear g0 g1 hBlt
        generalize hZ : World.alloc W' _ = Z
        have hz0 : Z.heap[W'.heap.size]? = some (.cells #[] 3 (0, 0)) := by rw [← hZ]; exact heap_alloc_new' W' _
        have hbz : Below W'.heap.size W' Z := by rw [← hZ]; exact (Below.refl _ _).alloc (Nat.le_refl _) _
        obtain ⟨G, hG⟩ : ∃ G, W'.heap.size = G := ⟨_, rfl⟩
        have hEG : E < G := hG ▸ lt_blk HS.out.1.kE
        have hwo := WO.gives (HS.out.1.later hbz).rg.gr HF.out.2
        have HWO := Lib.hid hwo
        have HZ := Lib.hid (And.intro (HS.out.1.later hbz) (And.intro HS.out.2 (hG ▸ hz0)))
        rw [hG]
        clear hZ hz0 hbz hwo hG HS
        refine HWO.out.mono ?_
        rintro e Z1 ⟨v1, rfl, hr1, hb1⟩
        rw [HF.out.1] at hr1
        obtain ⟨A1, c1, rfl, _, _, _⟩ := rowAt_slice hr1
        simp only [List.length_map] at hr1
        obtain ⟨o, ho⟩ : ∃ o, (dfs0 (nb b) n).post.reverse = o := ⟨_, rfl⟩
        have hord := HRP.out.ord
        rw [ho] at hr1 hord
        rw [ho, List.length_map]
        have hol : o.length ≤ 1048576 := by
          have h1 := HRP.out.le
          have h2 := HRP.out.len
          have h3 := sortN_len o
          rw [hord] at h3
          omega
        obtain ⟨v2, Z2, hrun, hr2, ho2⟩ := row_copy ((hb1.block G (lt_blk HZ.out.2.2)).trans HZ.out.2.2) hr1 hol
        obtain ⟨A2, c2, rfl, _, _, _⟩ := rowAt_slice hr2
        simp only [List.length_map] at hr2 hrun
        have HRUN := Lib.hid hrun
        have hz2 := (HZ.out.1.later hb1).above ho2 (fun g hg => by have e : g = G := hg; omega)
        have HSORT := Lib.hid (sortG hr2 hol)
        have HZ2 := Lib.hid (And.intro hz2 (And.intro HZ.out.2.1 (And.intro hr2 (And.intro hord hol))))
        clear hr1 hb1 hord ho hol hrun hr2 ho2 hz2 HWO HZ
        go_wp2_with (first | (at_builtin; refine Lib.wpList_append_run _ rfl _ _ _ _ rfl _ _ rfl rfl _ _ HRUN.out ?_) | fail)
        refine HSORT.out.mono ?_
        rintro e Z3 ⟨rfl, hr3, ho3⟩
        have hz3 := HZ2.out.1.above ho3 (fun g hg => by have := (HZ2.out.2.2.1.lt hg).2; omega)
        have hr3' : RowAt Z3 G 3 (.slice A2 o.length c2) ((upto p n).map iv) := by rw [← HZ2.out.2.2.2.1]; exact hr3
        have hol : o.length = (upto p n).length := by rw [← HZ2.out.2.2.2.1, sortN_len]
        rw [hol] at hr3'
        rw [hol]
        have HZ3 := Lib.hid (And.intro hz3 (And.intro HZ2.out.2.1 hr3'))
        have g0 := hz3.rg.c0
        have g1 := hz3.rg.c1
        clear hr3 ho3 hz3 hr3' hol HSORT HRUN HZ2
        go_wp2_with fail
        have hre := reached_calls HZ3.out.1.rg.gr HF.out.2
        rw [HF.out.1, HRP.out.seen] at hre
        refine hre.mono ?_
        rintro e Z4 ⟨q6, rfl, hs6, hq6, hb6⟩
        have hz4 := HZ3.out.1.later hb6
        have hr4 := HZ3.out.2.2.only (Only.of_below hb6) (fun g hg e => by have := (HZ3.out.2.2.lt hg).1; omega)
        have HZ4 := Lib.hid (And.intro hz4 (And.intro HZ3.out.2.1 (And.intro hr4 hs6)))
        clear g0 g1 hre hs6 hq6 hb6 hz4 hr4 HZ3
        go_wp2_with fail
        go_loopw [56, 11] (fun v u wr => ∃ i : Nat, v = .int .i64 (i : Int) ∧ u = .int .i64 ((upto p i).length : Int) ∧ Hid (i ≤ n ∧ Below Z4.heap.size Z4 wr)) (fun v _ _ => n - (intOf v).toNat)
        case atStart => exact ⟨0, rfl, by simp [upto], Lib.hid ⟨Nat.zero_le _, Below.refl _ _⟩⟩
        case round =>
          obtain ⟨i, rfl, rfl, HI⟩ := hrel
          have hz := HZ4.out.1.later HI.out.2
          have hr := HZ4.out.2.2.1.only (Only.of_below HI.out.2) (fun g hg e => by have := (HZ4.out.2.2.1.lt hg).1; omega)
          have hs := HZ4.out.2.2.2.only (Only.of_below HI.out.2) (fun e => by have := lt_blk HZ4.out.2.2.2; omega)
          by_cases hi : i < n
          · have pp1 : ((i : Int) < (n : Int)) = True := eq_true (by omega)
            have i0 : 0 ≤ (i : Int) := by omega
            have i1 : (i : Int) < (n : Int) := by omega
            have hcs := cell_of_blk _ _ _ _ _ hz.rg.ks 0
            have hc1 := hz.rg.sn.cell i (by rw [marks_len]; exact hi)
            have hc2 := hs.cell i (by rw [marks_len]; exact hi)
            rw [marks_get _ hi] at hc1 hc2
            simp at hcs
            by_cases hm : i ∈ p
            · rw [decide_eq_true hm] at hc1 hc2
              have hat := upto_at p hm hi
              obtain ⟨kk, hkk⟩ : ∃ kk, (upto p i).length = kk := ⟨_, rfl⟩
              rw [hkk] at hat ⊢
              have hkl : kk < (upto p n).length := (List.getElem?_eq_some_iff.1 hat).1
              obtain ⟨g0, o0, rfl⟩ : ∃ g o, A2 = some ⟨g, o, none⟩ := by
                rcases hr with ⟨h1, h2⟩ | ⟨g, o, cap, cur, h1, _⟩
                · have : upto p n = [] := by simpa using h2
                  rw [this] at hkl; simp at hkl
                · injection h1 with h1; exact ⟨g, o, h1⟩
              have hc3 := hr.cell kk (iv i) (by rw [List.getElem?_map, hat]; rfl)
              unfold iv at hc3
              have q0 : 0 ≤ (kk : Int) := by omega
              have q1' : (kk : Int) < ((upto p n).length : Int) := by omega
              have q3 : ¬ ((upto p n).length : Int) ≤ (kk : Int) := by omega
              have HN := Lib.hid (show (upto p (i + 1)).length = kk + 1 by rw [upto_succ, if_pos hm, List.length_append, hkk]; rfl)
              have hun : (upto p n).length ≤ 1048576 := by have := HRP.out.len; have := HRP.out.le; omega
              clear hz hr hs hm hat hkk hkl
              go_wp2_with fail
              go_roundw
              case rel => exact ⟨i + 1, by go_num, by rw [HN.out]; go_num, Lib.hid ⟨by omega, HI.out.2⟩⟩
              case measure => simp [intOf]; omega
            · rw [decide_eq_false hm] at hc1 hc2
              have HN := Lib.hid (show (upto p (i + 1)).length = (upto p i).length by rw [upto_succ, if_neg hm])
              clear hz hr hs hm
              go_wp2_with fail
              go_roundw
              case rel => exact ⟨i + 1, by go_num, by rw [HN.out], Lib.hid ⟨by omega, HI.out.2⟩⟩
              case measure => simp [intOf]; omega
          · obtain rfl : i = n := by have := HI.out.1; omega
            have pp1 : ((i : Int) < (i : Int)) = False := eq_false (by omega)
            have hbm := cell_of_blk _ _ _ _ _ hz.km 0
            have hst1 := cell_of_blk _ _ _ _ _ hz.rg.k1 0
            simp at hbm hst1
            have hup := HRP.out.len
            have hmin : min (p.length : Int) (1 + (st : Int) % 5) = (M : Int) := by have := HZ4.out.2.1; omega
            have hwr : IntKind.i64.wrap (1 + (st : Int) % 5) = 1 + (st : Int) % 5 := by rw [IntKind.wrap_i64]; omega
            rw [hup]
            have HZ5 := Lib.hid hz
            clear hr hs hz hup
            go_wp2_with fail
            clear hbm hst1 pp1
            refine (new_calls 0 (by decide) wr).mono ?_
            rintro e y4 ⟨gv, rfl, ⟨S4, hg4⟩, hc4⟩
            obtain ⟨q5, p5, rfl⟩ := hg4.form
            simp only [List.length_replicate]
            go_wp2_with fail
            refine (len_calls q5 0 p5 0 0 0 _).mono ?_
            rintro e y5 ⟨rfl, hc5⟩
            have hy5 := (HZ5.out.later hc4).later hc5
            have HY5 := Lib.hid hy5
            clear hc4 hc5 hg4 hy5
            go_wp2_with fail
            refine (new_calls 0 (by decide) y5).mono ?_
            rintro e y6 ⟨gv, rfl, ⟨S6, hg6⟩, hc6⟩
            obtain ⟨q6', p6', rfl⟩ := hg6.form
            simp only [List.length_replicate]
            go_wp2_with fail
            refine (WO.gives hg6 ⟨by simp, fun i l h => by simp at h⟩).mono ?_
            rintro e y7 ⟨v7, rfl, hr7, hc7⟩
            have hr7' : RowAt y7 y6.heap.size 3 v7 ([] : List Value) := by simpa [dfs0, dst0] using hr7
            obtain ⟨A7, c7, rfl, _, _, _⟩ := rowAt_slice hr7'
            have hy7 := (HY5.out.later hc6).later hc7
            have hck := cell_of_blk _ _ _ _ _ hy7.rg.k2 0
            have hfk : y7.frozen? ⟨W.heap.size + 1 + 1, 0, none⟩ = false := by have := hy7.rg.k2; simp [World.frozen?, this]
            have HY7 := Lib.hid hy7
            simp only [List.length_nil]
            simp at hck
            clear hg6 hr7 hr7' hc6 hc7 hy7
            go_wp2_with fail
            have hll := HY7.out.lt2
            have hlr := HY7.out.rg.lt
            have hEs : E < y7.heap.size := lt_blk HY7.out.kE
            have hcB : (y7.setCell ⟨W.heap.size + 1 + 1, 0, none⟩ (.bool true)).cell? ⟨W.heap.size + 1 + 1, 0, none⟩ = some (.bool true) := by have := HY7.out.rg.k2; simp [World.setCell, World.cell?, Array.getElem?_modify, this]
            have hos := Only.setCell y7 ⟨W.heap.size + 1 + 1, 0, none⟩ (.bool true)
            have hbl : Below W.heap.size W (y7.setCell ⟨W.heap.size + 1 + 1, 0, none⟩ (.bool true)) := HY7.out.rg.below.setCell (by show W.heap.size ≤ W.heap.size + 1 + 1; omega) _
            have hkE := (hos.block E hEs (fun e => by have e : E = W.heap.size + 1 + 1 := e; omega)).trans HY7.out.kE
            have hkD := (hos.block D (by omega) (fun e => by have e : D = W.heap.size + 1 + 1 := e; omega)).trans HY7.out.kD
            have hsz := hos.size
            generalize y7.setCell ⟨W.heap.size + 1 + 1, 0, none⟩ (.bool true) = Wf at *
            have hEs2 : E < Wf.heap.size := lt_blk hkE
            have hP1 := Only.putObj Wf E (.deferred none)
            have hD2 : (Wf.putObj E (.deferred none)).heap[D]? = some (.deferred (some [])) := (World.putObj_heap_other (by omega)).trans hkD
            have hP2 := Only.putObj (Wf.putObj E (.deferred none)) D (.deferred none)
            have hq : ((Wf.putObj E (.deferred none)).putObj D (.deferred none)).cell? ⟨W.heap.size + 1 + 1, 0, none⟩ = some (.bool true) := by
              rw [hP2.cell (p := ⟨W.heap.size + 1 + 1, 0, none⟩) (by simp; omega) (by show ¬ (W.heap.size + 1 + 1 = D); omega), hP1.cell (p := ⟨W.heap.size + 1 + 1, 0, none⟩) (by show W.heap.size + 1 + 1 < _; omega) (by show ¬ (W.heap.size + 1 + 1 = E); omega)]
              exact hcB
            refine ⟨by simp, .inl ⟨_, _, rfl, run_takeDeferred hkE, ?_⟩⟩
            refine ⟨by simp, .inl ⟨_, _, rfl, run_takeDeferred hD2, ?_⟩⟩
            refine ⟨_, by simp [results, Try.results9, go_sem, hq], rfl, ?_⟩
            exact (hbl.trans (hP1.below (by have := hbl.size; omega) (fun k hk e => by have e : k = E := e; omega))).trans (hP2.below (by have := hbl.size; simp; omega) (fun k hk e => by have e : k = D := e; omega))
theorem reach_calls (N : Nat) (hN : N ≤ 255) (st : Nat) (hst : st ≤ 255) (A : Option Addr) (c : Nat) (es : List (Nat × Nat)) (W : World) (hA : Edges W A es) (hc : es.length ≤ c) :
    Calls Try.prog 9 #[.agg #[.int .u8 N, .slice A es.length c], .int .u8 (st : Int)] W fun e W' => e = .returned (.bool true) ∧ Below W.heap.size W W' := by
  by_cases hl : es.length ≤ 40
  · exact reach_near N hN st hst A c es W hA hc hl
  · exact reach_far N st A c es W hl
theorem reach_int (N : Nat) (hN : N ≤ 255) (x : Int) (hx : 0 ≤ x ∧ x ≤ 255) (A : Option Addr) (c : Nat) (es : List (Nat × Nat)) (W : World) (hA : Edges W A es) (hc : es.length ≤ c) :
    Calls Try.prog 9 #[.agg #[.int .u8 N, .slice A es.length c], .int .u8 x] W fun e W' => e = .returned (.bool true) ∧ Below W.heap.size W W' := by
  obtain ⟨st, rfl⟩ := Int.eq_ofNat_of_zero_le hx.1
  exact reach_calls N hN st (by omega) A c es W hA hc
end Go.Proofs.Ytffnkbicbfjnpaa
