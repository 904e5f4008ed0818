/- refinerylaw08.DomAll: the walk. Conditions: the numbers are of their kinds. -/
import Derived.Test.YtnkbbjeepdjamaaDAllC
import Derived.Test.YtnkbbjeepdjamaaDAllJ
import Derived.Test.YtnkbbjeepdjamaaDOvW
import Derived.Laws.EntriesVeiled
namespace Go.Proofs.Ytnkbbjeepdjamaa
open Go.RowKit
attribute [local go_sem] Oper.semAt_some
theorem three3 {w X : World} {o0 o1 o2 : Obj} (h : ((w.alloc o0).alloc o1).alloc o2 = X) :
    X.heap[w.heap.size]? = some o0 ∧ X.heap[w.heap.size + 1]? = some o1 ∧ X.heap[w.heap.size + 1 + 1]? = some o2 ∧ X.heap.size = w.heap.size + 3 ∧ Below w.heap.size w X := by
  subst h
  have n1 := heap_alloc_new' (w.alloc o0) o1
  have n2 := heap_alloc_new' ((w.alloc o0).alloc o1) o2
  simp only [World.size_alloc] at n1 n2
  have old : ∀ {w : World} {o : Obj} {g : Nat} {a : Obj}, w.heap[g]? = some a → (w.alloc o).heap[g]? = some a := fun h => (Below.heap_alloc _ _ _ (lt_blk h)).trans h
  exact ⟨old (old (heap_alloc_new' w o0)), old n1, n2, by simp, (((Below.refl _ _).alloc (Nat.le_refl _) _).alloc (by simp) _).alloc (by simp; omega) _⟩
/-- The first so many are had. -/
theorem take_more {p : List Nat} {k x : Nat} (h : p[k]? = some x) : p.take (k + 1) = p.take k ++ [x] := take_snoc' p k x h
theorem nb_few {b : List (List Nat)} (hf : Few b) {a c : Nat} (hc : c ∈ nb b a) : c < b.length := by
  unfold nb at hc
  rw [List.getD_eq_getElem?_getD] at hc
  cases hb : b[a]? with
  | none => rw [hb] at hc; simp at hc
  | some l => rw [hb] at hc; exact hf.lt a l hb c hc
/-- Of the first places those that are reached. -/
noncomputable def rch (g : Nat → List Nat) (k : Nat) : List Nat := (List.range k).filter (fun y => @decide (Way g 0 y) (Classical.propDecidable _))
theorem rch_yes {g : Nat → List Nat} {k : Nat} (h : Way g 0 k) : (rch g (k + 1)).length = (rch g k).length + 1 := by
  unfold rch
  rw [List.range_succ, List.filter_append, List.length_append]
  simp [h]
theorem rch_no {g : Nat → List Nat} {k : Nat} (h : ¬ Way g 0 k) : (rch g (k + 1)).length = (rch g k).length := by
  unfold rch
  rw [List.range_succ, List.filter_append, List.length_append]
  simp [h]
theorem rch_le (g : Nat → List Nat) (k : Nat) : (rch g k).length ≤ k := by
  unfold rch
  exact Nat.le_trans (List.length_filter_le _ _) (by simp)
theorem rch_all {g : Nat → List Nat} {n : Nat} {up deep : List Int} (h : LT.DTree g n up deep) : (rch g n).length = (preT up n n 0).length := by
  refine List.Perm.length_eq ((List.perm_ext_iff_of_nodup (List.Pairwise.filter _ List.nodup_range) (h.pre_nd n 0 0 (.refl 0) (by simpa using h.zero.2))).2 (fun a => ?_))
  rw [h.pre_mem]
  try unfold rch
  rw [List.mem_filter, List.mem_range]
  simp only [decide_eq_true_eq]
  exact ⟨fun e => e.2, fun e => ⟨h.lt a e, e⟩⟩
/-- A range over no tree. -/
theorem wp_tree_none {g : Operand} {ps : Array Tmp} {assign body : Code} {Q : Exit → Act → World → Prop} {a : Act} {w : World} {bT : Nat}
    (hg : a.eval g = .func (.func 61) #[] #[.pointer (some ⟨bT, 0, none⟩)]) (hT : w.heap[bT]? = some (.cells #[.slice none 0 0, .slice none 0 0, .slice none 0 0] 33 (0, 0)))
    (hdone : ∀ W, Only (fun j => j = w.heap.size + 1) w W → W.heap[w.heap.size]? = some (.deferred (some [])) → Q .normal { a with defers := mark w.heap.size :: a.defers } W) :
    (Code.rangeFunc g ps assign body).wpIn Fence.wide 6 Try.prog Q a w := by
  refine wpIn_rf rfl (by omega) (gf := 61) (lb := #[.pointer (some ⟨bT, 0, none⟩)]) hg trivial (enters_of Try.func61 (by kernel_rfl) rfl) ?_
  intro fn W1 hfn hO hk hl
  have hT1 := (hO.block bT (Array.getElem?_eq_some_iff.1 hT).1 id).trans hT
  have x2 := cell_of_blk _ _ _ _ _ hT1 2
  simp at x2
  have HK := Lib.hid (And.intro hO (And.intro hk hl))
  have HD := Lib.hid hdone
  clear hT hT1 hO hk hl hdone
  refine callsIn_of_wp Try.func61 rfl trivial ?_ rfl
  simp only [Try.ntmps61, List.size_toArray, List.length_cons, List.length_nil, Nat.reduceAdd, Nat.reduceSub, Array.replicate_succ, Array.replicate_zero, List.push_toArray, List.append_toArray, List.nil_append, List.cons_append]
  gi_wp2_with fail
  go_end0
  exact ⟨⟨_, rfl⟩, .ready, none, by simp, HK.out.2.1, HK.out.2.2, fun W3 hO3 hk3 => HD.out W3 ((HK.out.1.mono (fun _ _ e => e.elim)).trans hO3 (fun _ _ e => e)) hk3⟩
/-- What the last test reads. -/
def S25 (W0 : World) (b8 b10 R1 B : Nat) (g8 o8 c8 m : Nat) (A10 : Option Addr) (M c10 st q1 p1 n : Nat) (l l' : List Int) (X : World) : Prop :=
  X.cell? ⟨b8, 0, none⟩ = some (.slice (some ⟨g8, o8, none⟩) m c8) ∧ X.cell? ⟨b10, 0, none⟩ = some (.slice A10 M c10) ∧ X.cell? ⟨R1, 0, none⟩ = some (.int .u8 (st : Int)) ∧ X.cell? ⟨B, 0, none⟩ = some (.slice (some ⟨q1, 0, none⟩) n n) ∧ X.cell? ⟨B, 1, none⟩ = some (.slice (some ⟨p1, 0, none⟩) n n) ∧
    Hid (SI.CellsAt A10 l X ∧ SI.CellsAt (some ⟨g8, o8, none⟩) l' X ∧ Below W0.heap.size W0 X)
theorem S25.later {W0 X X' : World} {b8 b10 R1 B g8 o8 c8 m M c10 st q1 p1 n : Nat} {A10 : Option Addr} {l l' : List Int} (h : S25 W0 b8 b10 R1 B g8 o8 c8 m A10 M c10 st q1 p1 n l l' X) (hb : Below X.heap.size X X') : S25 W0 b8 b10 R1 B g8 o8 c8 m A10 M c10 st q1 p1 n l l' X' := by
  obtain ⟨h1, h2, h3, h4, h5, h6⟩ := h
  have k : ∀ {p : Addr} {v : Value}, X.cell? p = some v → X'.cell? p = some v := fun hc => (hb.cell (World.block_lt_of_cell? X _ hc)).trans hc
  have kc : ∀ {A : Option Addr} {l : List Int}, SI.CellsAt A l X → SI.CellsAt A l X' := fun hc i hi => by
    obtain ⟨g, o, e, hc⟩ := hc i hi
    exact ⟨g, o, e, k hc⟩
  exact ⟨k h1, k h2, k h3, k h4, k h5, Lib.hid ⟨kc h6.out.1, kc h6.out.2.1, below_two h6.out.2.2 hb⟩⟩
theorem S25.set {W0 X : World} {b8 b10 R1 B g8 o8 c8 m M c10 st q1 p1 n R : Nat} {A10 : Option Addr} {l l' : List Int} (h : S25 W0 b8 b10 R1 B g8 o8 c8 m A10 M c10 st q1 p1 n l l' X) (hne : W0.heap.size ≤ R ∧ b8 ≠ R ∧ b10 ≠ R ∧ R1 ≠ R ∧ B ≠ R ∧ g8 ≠ R ∧ ∀ g o, A10 = some ⟨g, o, none⟩ → g ≠ R) (v : Value) : S25 W0 b8 b10 R1 B g8 o8 c8 m A10 M c10 st q1 p1 n l l' (X.setCell ⟨R, 0, none⟩ v) := by
  obtain ⟨h1, h2, h3, h4, h5, h6⟩ := h
  obtain ⟨n0, n1, n2, n3, n4, n5, n6⟩ := hne
  have ho := Only.setCell X ⟨R, 0, none⟩ v
  have k : ∀ {p : Addr} {u : Value}, X.cell? p = some u → p.block ≠ R → (X.setCell ⟨R, 0, none⟩ v).cell? p = some u := fun hc hn => (ho.cell (World.block_lt_of_cell? X _ hc) hn).trans hc
  refine ⟨k h1 n1, k h2 n2, k h3 n3, k h4 n4, k h5 n4, Lib.hid ⟨fun i hi => ?_, fun i hi => ?_, h6.out.2.2.setCell (by exact n0) v⟩⟩
  · obtain ⟨g, o, e, hc⟩ := h6.out.1 i hi
    exact ⟨g, o, e, k hc (n6 g o e)⟩
  · obtain ⟨g, o, e, hc⟩ := h6.out.2.1 i hi
    injection e with e
    injection e with e1 e2
    exact ⟨g, o, by rw [e1, e2], k hc (by show g ≠ R; rw [← e1]; exact n5)⟩
/-- What a boxed row of the first so many is. -/
theorem got_box {w : World} {b k x : Nat} {p : List Nat} {S : Nat → Prop} (h : BoxRow w b b (p.take k) S) (hx : p[k]? = some x) : ∃ A6 c6, w.heap[b]? = some (.cells #[.slice A6 k c6] 31 (0, 0)) ∧ RowAt w b 3 (.slice A6 k c6) ((p.take k).map iv) ∧ b ≤ b ∧ ∀ g, S g ↔ g = b ∨ (Value.slice A6 k c6).ownBlock = some g := by
  obtain ⟨v6, j1, j2, j3, j4⟩ := h.ex
  obtain ⟨A6, m6, c6, rfl⟩ : ∃ A m c, v6 = .slice A m c := (rowAt_slice j2).elim fun A h => h.elim fun c h => ⟨A, _, c, h.1⟩
  obtain ⟨hm6, _, _⟩ := rowAt_cells j2
  rw [ivs_len] at hm6
  have hkp := (List.getElem?_eq_some_iff.1 hx).1
  have hmk : m6 = k := by rw [hm6, List.length_take]; omega
  subst hmk
  exact ⟨A6, c6, j1, j2, j3, j4⟩
/-- One more behind a boxed row. -/
theorem got_put {w : World} {b k x : Nat} {p : List Nat} {S : Nat → Prop} {A6 : Option Addr} {m6 c6 : Nat} (h1 : w.heap[b]? = some (.cells #[.slice A6 m6 c6] 31 (0, 0))) (h2 : RowAt w b 3 (.slice A6 m6 c6) ((p.take k).map iv)) (h4 : ∀ g, S g ↔ g = b ∨ (Value.slice A6 m6 c6).ownBlock = some g) (hx : p[k]? = some x) (hp : p.length ≤ 1000) :
    ∃ A1 m1 c1 w1, (Builtin.append_ #[31, 31] 31 #[.slice A6 m6 c6, .slice (some ⟨w.heap.size, 0, none⟩) 1 1]).run Try.prog (w.alloc (.cells #[.int .i64 (x : Int)] 3)) = .ok (.slice A1 m1 c1) w1 ∧ w1.cell? ⟨b, 0, none⟩ = some (.slice A6 m6 c6) ∧ w1.frozen? ⟨b, 0, none⟩ = false ∧
      ∃ T, BoxRow (w1.setCell ⟨b, 0, none⟩ (.slice A1 m1 c1)) b b (p.take (k + 1)) T ∧ Only S w (w1.setCell ⟨b, 0, none⟩ (.slice A1 m1 c1)) ∧ ∀ g, T g → S g ∨ w.heap.size ≤ g := by
  have hbw : b ≤ w.heap.size := by have := lt_blk h1; omega
  obtain ⟨v', w1, hr1, r1, r2, r3⟩ := row_append (w := w.alloc (.cells #[.int .i64 (x : Int)] 3)) (base := b) (v := .slice A6 m6 c6) (l := p.take k) (h2.only (Only.alloc (fun _ => False) _ _) (fun _ _ e => e)) ⟨w.heap.size, 0, none⟩ x (by
    have := cell_of_blk (w.alloc (.cells #[.int .i64 (x : Int)] 3)) w.heap.size _ _ _ (heap_alloc_new' w _) 0
    exact this) (by simp; omega) (by rw [List.length_take]; omega)
  obtain ⟨A1, m1, c1, rfl⟩ : ∃ A m c, v' = .slice A m c := (rowAt_slice r1).elim fun A h => h.elim fun c h => ⟨A, _, c, h.1⟩
  have ho1 : Only (fun g => (Value.slice A6 m6 c6).ownBlock = some g) w w1 := (Only.alloc _ _ _).trans r2 (fun _ _ e => e)
  have hput := put_final h1 h2 (Nat.le_refl _) h4 r1 ho1 (r3.imp id (fun ⟨g, a, b⟩ => ⟨g, a, by simp at b; omega⟩))
  have hv6 : (Value.slice A6 m6 c6).ownBlock ≠ some b := h2.ne_blk h1 (by decide)
  rw [take_more hx]
  exact ⟨A1, m1, c1, w1, hr1, (ho1.cell (p := ⟨b, 0, none⟩) (lt_blk h1) hv6).trans (cell_of_blk _ _ _ _ _ h1 0), (ho1.frozen (p := ⟨b, 0, none⟩) (lt_blk h1) hv6).trans (by simp [World.frozen?, h1]), hput⟩
set_option linter.unusedSimpArgs false in
set_option maxRecDepth 100000 in
set_option maxHeartbeats 8000000 in
theorem dal_near (N : Nat) (hN : N ≤ 255) (st : Nat) (hst : st ≤ 255) (A : Option Addr) (c : Nat) (es : List (Nat × Nat)) (W : World) (hA : Edges W A es) (hc : es.length ≤ c) (hl : es.length ≤ 40) :
    Calls Try.prog 7 #[.agg #[.int .u8 N, .slice A es.length c], .int .u8 (st : Int)] W fun e W' => e = .returned (.bool true) ∧ Below W.heap.size W W' := by
  have HA := Lib.hid (And.intro hA (And.intro hc hst))
  clear hA hc hst
  obtain ⟨n, hn⟩ : ∃ n, 1 + N % 12 = n := ⟨_, rfl⟩
  have hn0 : 0 < n := by omega
  have hn12 : n ≤ 12 := by omega
  have HN := Lib.hid hn
  clear hn
  refine (callsIn_wide (n := 6)).1 ?_
  refine callsIn_of_wp_marks Try.func7 rfl trivial ?_ rfl
  simp only [Try.ntmps7, List.size_toArray, List.length_cons, List.length_nil, Nat.reduceAdd, Nat.reduceSub, Array.replicate_succ, Array.replicate_zero, List.push_toArray, List.append_toArray, List.nil_append, List.cons_append]
  refine wpIn_wide.2 ?_
  go_wp2_with fail
  generalize hX : World.alloc (World.alloc (World.alloc W _) _) _ = X
  obtain ⟨hx, hx1, hx2, hz, hbx⟩ := three3 hX
  obtain ⟨R1, hR1⟩ : ∃ k, W.heap.size + 1 = k := ⟨_, rfl⟩
  obtain ⟨R, hR⟩ : ∃ k, R1 + 1 = k := ⟨_, rfl⟩
  rw [hR1] at hx1 hx2 ⊢
  rw [hR] at hx2 ⊢
  have HX := Lib.hid (And.intro hx (And.intro hbx (And.intro hx1 hx2)))
  have HR := Lib.hid (show W.heap.size ≤ R ∧ R1 < R by omega)
  clear hX hx hx1 hx2 hbx hz hR hR1
  refine (awake8 X).mono ?_
  rintro e W1 ⟨rfl, hb⟩
  have H1 := Lib.hid (And.intro ((hb.block _ (lt_blk HX.out.1)).trans HX.out.1) (And.intro (below_two HX.out.2.1 hb) (And.intro ((hb.block _ (lt_blk HX.out.2.2.1)).trans HX.out.2.2.1) ((hb.block _ (lt_blk HX.out.2.2.2)).trans HX.out.2.2.2))))
  clear hb HX
  have x0 := cell_of_blk _ _ _ _ _ H1.out.1 0
  have x1 := cell_of_blk _ _ _ _ _ H1.out.1 1
  simp at x0 x1
  go_wp2_with fail
  clear x0 x1
  refine (light_calls7 N A es.length c W1).mono ?_
  rintro e W2 ⟨rfl, hb⟩
  have H2 := Lib.hid (And.intro ((hb.block _ (lt_blk H1.out.1)).trans H1.out.1) (And.intro (below_two H1.out.2.1 hb) (And.intro ((hb.block _ (lt_blk H1.out.2.2.1)).trans H1.out.2.2.1) ((hb.block _ (lt_blk H1.out.2.2.2)).trans H1.out.2.2.2))))
  rw [decide_eq_true hl]
  clear hb H1
  have x0 := cell_of_blk _ _ _ _ _ H2.out.1 0
  have x1 := cell_of_blk _ _ _ _ _ H2.out.1 1
  simp at x0 x1
  go_wp2_with fail
  clear x0 x1
  have hsc := small_calls N hN A c es W2 (HA.out.1.later H2.out.2.1) HA.out.2.1 (by omega)
  rw [HN.out] at hsc
  have HSC := Lib.hid hsc
  clear hsc
  refine HSC.out.mono ?_
  rintro e W3 ⟨gv, q, vs, S, rfl, hg, hm, hap, hb3⟩
  have hrw := graph_rows n hn0 es
  have htw := graph_twin n hn0 es
  generalize graphB n es = b at *
  generalize graphA n es = a at *
  obtain ⟨q1, p1, rfl⟩ := hg.form
  rw [hrw.lb] at hg ⊢
  have HG := Lib.hid (And.intro (hg.lower H2.out.2.1.size) (And.intro ((hb3.block _ (lt_blk H2.out.2.2.1)).trans H2.out.2.2.1) (And.intro ((hb3.block _ (lt_blk H2.out.2.2.2)).trans H2.out.2.2.2) (And.intro (below_two H2.out.2.1 hb3) (And.intro hrw htw)))))
  clear hg hm hap hb3 hrw htw HSC H2
  go_upto_region 6 with (fail)
  generalize hX : World.alloc W3 _ = X3
  obtain ⟨hx, hbx, hz⟩ := boxed hX rfl
  have hlb := HG.out.2.2.2.2.1.lb
  have hfew : Few b := HG.out.2.2.2.2.1.fewOf (by omega)
  have hbl : ∀ (i : Nat) (l : List Nat), b[i]? = some l → l.length ≤ 1048575 := fun i l hi => by have := (HG.out.2.2.2.2.1.few i l hi).1; omega
  have hal : ∀ (i : Nat) (l : List Nat), a[i]? = some l → l.length ≤ 1048575 := fun i l hi => by have := (HG.out.2.2.2.2.1.fewA i l hi).1; omega
  obtain ⟨B, hB⟩ : ∃ k, W3.heap.size = k := ⟨_, rfl⟩
  have HF := Lib.hid (And.intro hlb (And.intro hfew (And.intro HG.out.2.2.2.2.2 (And.intro hbl hal))))
  have HX3 := Lib.hid (And.intro (HG.out.1.later hbx) (And.intro (below_two HG.out.2.2.2.1 hbx) (And.intro (hB ▸ hx) (And.intro ((hbx.block _ (lt_blk HG.out.2.1)).trans HG.out.2.1) ((hbx.block _ (lt_blk HG.out.2.2.1)).trans HG.out.2.2.1)))))
  rw [hB]
  clear hX hx hbx hz hlb hfew hbl hal HG hB
  have x0 := cell_of_blk _ _ _ _ _ HX3.out.2.2.1 0
  have x1 := cell_of_blk _ _ _ _ _ HX3.out.2.2.1 1
  simp at x0 x1
  have hof := of_calls hn0 (by omega) X3 HX3.out.1 HF.out.1 HF.out.2.1 HF.out.2.2.1 HF.out.2.2.2.1 HF.out.2.2.2.2 HX3.out.2.1.size
  have HOF := Lib.hid hof
  clear hof
  go_wp2_with fail
  clear x0 x1
  refine HOF.out.mono ?_
  rintro e Y ⟨qu, qb, qd, ts, up, deep, rfl, htr, hdt, hb⟩
  unfold treeV
  have HY := Lib.hid (And.intro htr (And.intro (HX3.out.1.later hb) (And.intro (below_two HX3.out.2.1 hb) (And.intro ((hb.block _ (lt_blk HX3.out.2.2.1)).trans HX3.out.2.2.1) (And.intro ((hb.block _ (lt_blk HX3.out.2.2.2.1)).trans HX3.out.2.2.2.1) ((hb.block _ (lt_blk HX3.out.2.2.2.2)).trans HX3.out.2.2.2.2))))))
  have HDT := Lib.hid hdt
  clear htr hdt hb HOF HX3
  go_upto_region 10 with (fail)
  generalize hX : World.alloc (World.alloc (World.alloc Y _) _) _ = X4
  obtain ⟨hx, hx1, hx2, hz, hbx⟩ := three3 hX
  obtain ⟨b7, hb7⟩ : ∃ k, Y.heap.size = k := ⟨_, rfl⟩
  obtain ⟨b8, hb8⟩ : ∃ k, b7 + 1 = k := ⟨_, rfl⟩
  obtain ⟨b9, hb9⟩ : ∃ k, b8 + 1 = k := ⟨_, rfl⟩
  rw [hb7] at hx hx1 hx2 ⊢
  rw [hb8] at hx1 hx2 ⊢
  rw [hb9] at hx2 ⊢
  have htb := HY.out.1.mat
  have hdw : DW X4 X3.heap.size b8 n qu qb qd ts up deep b7 b8 b9 [] (fun g => g = b8) :=
    ⟨HY.out.1.later hbx, ⟨by have := lt_blk HY.out.1.up; omega, by have := lt_blk HY.out.1.deep; omega, fun g hg => by have := (htb.lt hg).1; omega, by omega⟩, hx, hx2, by omega, BoxRow.new hx1 (Nat.le_refl _)⟩
  have hpl := HDT.out.pre_len
  have hdc := dclo_ok HDT.out (by omega) n 0 0 [] _ X4 hdw (.refl 0) (by simpa using HDT.out.zero.2) (by omega) (by simp; omega)
  obtain ⟨p0, hp0⟩ : ∃ p, preT up n n 0 = p := ⟨_, rfl⟩
  rw [hp0] at hdc hpl
  have HDC := Lib.hid hdc
  have H4 := Lib.hid (And.intro hdw (And.intro hbx (And.intro hb7 (And.intro hb8 (And.intro hb9 hp0)))))
  have e9 := cell_of_blk _ _ _ _ _ hx2 0
  simp at e9
  clear hX hx hx1 hx2 hz hbx hb7 hb8 hb9 htb hdw hdc hp0
  go_wp2_with fail
  clear e9
  refine HDC.out.mono ?_
  rintro e W10 ⟨rfl, S10, hdw, ho, hn⟩
  rw [List.nil_append] at hdw
  have hbY : Below Y.heap.size Y W10 := H4.out.2.1.trans (ho.below H4.out.2.1.size (fun k hk e => by have := H4.out.2.2.1; have := H4.out.2.2.2.1; omega))
  have H10 := Lib.hid (And.intro hdw hbY)
  clear hdw ho hn hbY HDC
  go_upto_region 12 with (fail)
  generalize hX : World.alloc W10 _ = X5
  obtain ⟨hx, hbx, hz⟩ := boxed hX rfl
  obtain ⟨b10, hb10⟩ : ∃ k, W10.heap.size = k := ⟨_, rfl⟩
  rw [hb10] at hx ⊢
  have H5 := Lib.hid (And.intro (H10.out.1.later hbx) (And.intro (below_two H10.out.2 hbx) (And.intro hx (show (∀ g, S10 g → g < b10) ∧ b9 < b10 ∧ Y.heap.size < b10 from ⟨fun g hg => by have := (H10.out.1.row.lt hg).1; omega, by have := lt_blk H10.out.1.f9; omega, by have := H4.out.2.2.1; have := H4.out.2.2.2.1; have := H4.out.2.2.2.2.1; have := lt_blk H10.out.1.f9; omega⟩))))
  clear hX hx hbx hz hb10 H10
  have t0 := cell_of_blk _ _ _ _ _ H5.out.1.t7 0
  have t1 := cell_of_blk _ _ _ _ _ H5.out.1.t7 1
  have t2 := cell_of_blk _ _ _ _ _ H5.out.1.t7 2
  simp at t0 t1 t2
  have hta := tall qu qb qd n X5
  unfold treeV at hta
  have HTA := Lib.hid hta
  clear hta
  go_wp2_with fail
  clear t0 t1 t2
  refine HTA.out.mono ?_
  rintro e W12 ⟨rfl, hW12⟩
  obtain ⟨hx, hbx, hz⟩ := boxed hW12.symm rfl
  obtain ⟨bT, hbT⟩ : ∃ k, X5.heap.size = k := ⟨_, rfl⟩
  rw [hbT] at hx ⊢
  have H12 := Lib.hid (And.intro (H5.out.1.later hbx) (And.intro (below_two H5.out.2.1 hbx) (And.intro ((hbx.block _ (lt_blk H5.out.2.2.1)).trans H5.out.2.2.1) (And.intro hx H5.out.2.2.2))))
  clear hW12 hx hbx hz hbT HTA H5
  go_wp2_with fail
  refine (wpIn_wide (n := 6)).1 ?_
  generalize hact : (Act.mk _ _ : Act) = a1
  obtain ⟨D, hD⟩ : ∃ D, W12.heap.size = D := ⟨_, rfl⟩
  obtain ⟨s, hs⟩ : ∃ s, st % 8 = s := ⟨_, rfl⟩
  have hb10D : b10 < D := hD ▸ lt_blk H12.out.2.2.1
  have hlow : qu < b10 ∧ qd < b10 ∧ (∀ g, MatB qb ts g → g < b10) ∧ b7 < b10 ∧ R < b10 ∧ R1 < b10 ∧ B < b10 := by
    obtain ⟨l1, l2, l3, l4⟩ := H12.out.1.low
    have h1 := H4.out.2.2.2.2.1
    have h2 := H12.out.2.2.2.2.2.1
    have h3 := lt_blk HY.out.2.2.2.1
    have h4 := lt_blk HY.out.2.2.2.2.1
    have h5 := lt_blk HY.out.2.2.2.2.2
    have h6 := H12.out.2.2.2.2.2.2
    exact ⟨by omega, by omega, fun g hg => by have := l3 g hg; omega, by omega, by omega, by omega, by omega⟩
  have HLW := Lib.hid hlow
  have hR1c : ∀ W' : World, Below b10 W12 W' → W'.heap[R1]? = some (.cells #[.int .u8 (st : Int)] 5 (0, 0)) := fun W' hb => (hb.block R1 hlow.2.2.2.2.2.1).trans ((H12.out.2.1.block _ (lt_blk HY.out.2.2.2.2.1)).trans HY.out.2.2.2.2.1)
  have HR1 := Lib.hid hR1c
  clear hR1c hlow
  refine wp_tree (tb := X3.heap.size) (ts := ts) (bT := bT) HDT.out (by omega) hn0 (by rw [← hact]; rfl) rfl H12.out.2.2.2.1
    (fun k S' W' => BoxRow W' b10 b10 (p0.take k) S' ∧ Below b10 W12 W' ∧ k ≤ s + 1 ∧ ∀ g, S' g → g ≠ D ∧ g ≠ D + 1)
    (fun cc W' => cc = .exit 0 ∧ s + 1 ≤ p0.length ∧ ∃ S', BoxRow W' b10 b10 (p0.take (s + 1)) S' ∧ Below b10 W12 W' ∧ ∀ g, S' g → g ≠ D ∧ g ≠ D + 1)
    (fun g => g = b10) ?rd ?lt ?I ?Ix ?S0 ?start (fun y a' => a' = Act.mk ((a1.tmps.setIfInBounds 32 (.int .i64 y)).setIfInBounds 11 (.int .i64 y)) []) ?as1 ?body1 ?done1 ?stop1
  case rd => exact fun k S' W' h => H12.out.1.tr.only (Only.of_below h.2.1) (fun e => by have := HLW.out.1; omega) (fun e => by have := HLW.out.2.1; omega) (fun g hg e => by have := HLW.out.2.2.1 g hg; omega)
  case lt => exact fun k S' W' h g hg => (h.1.lt hg).1
  case I =>
    rw [hD]
    rintro k S' A' B' ⟨h1, h2, h3, h4⟩ ho
    exact ⟨h1.only ho (fun g hg e => (h4 g hg).2 e), h2.trans (ho.below (by have := h2.size; omega) (fun k hk e => by omega)), h3, h4⟩
  case Ix =>
    rw [hD]
    rintro cc A' B' ⟨h0, h00, S', h1, h2, h4⟩ ho
    exact ⟨h0, h00, S', h1.only ho (fun g hg e => (h4 g hg).2 e), h2.trans (ho.below (by have := h2.size; omega) (fun k hk e => by omega)), h4⟩
  case S0 =>
    rintro g rfl
    exact lt_blk H12.out.2.2.1
  case start =>
    intro W' ho
    exact ⟨BoxRow.new ((ho.block _ (lt_blk H12.out.2.2.1) id).trans H12.out.2.2.1) (Nat.le_refl _), (ho.below (by omega) (fun k hk e => e)), Nat.zero_le _, fun g hg => by have hg : g = b10 := hg; omega⟩
  case as1 =>
    intro y W' K hK
    subst hact
    gi_wp2
  case body1 =>
    rw [hD]
    rintro m6 x a' S' W' hx rfl ⟨h1, h2, h3, h4⟩ hnD hnE hlt
    rw [H4.out.2.2.2.2.2] at hx
    have hkp := (List.getElem?_eq_some_iff.1 hx).1
    obtain ⟨A6, c6, hbox⟩ := got_box h1 hx
    have HJ := Lib.hid hbox
    subst hact
    simp only [List.setIfInBounds_toArray, List.set_cons_zero, List.set_cons_succ]
    have d6 : W'.cell? ⟨b10, 0, none⟩ = some (.slice A6 m6 c6) := cell_of_blk _ _ _ _ _ HJ.out.1 0
    have cR := cell_of_blk _ _ _ _ _ (HR1.out _ h2) 0
    simp at cR
    have hsz : s ≤ 7 := by have : st % 8 < 8 := Nat.mod_lt _ (by omega); omega
    have e8 : (st : Int) % 8 = (s : Int) := by omega
    have HB := Lib.hid (And.intro h2 (And.intro h3 (And.intro h4 (And.intro hx (And.intro hkp (And.intro hnD (And.intro hnE hlt)))))))
    clear hbox h1 h2 h3 h4 hx hkp hnD hnE hlt
    by_cases hk : s < m6
    · have pk : ((s : Int) < (m6 : Int)) = True := eq_true (by omega)
      gi_wp2_with fail
      have hm1 : m6 = s + 1 := by have := HB.out.2.1; omega
      refine ⟨rfl, rfl, rfl, by have := HB.out.2.2.2.2.1; omega, S', ⟨_, HJ.out.1, by rw [← hm1]; exact HJ.out.2.1, HJ.out.2.2.1, HJ.out.2.2.2⟩, HB.out.1, HB.out.2.2.1⟩
    · have pk : ((s : Int) < (m6 : Int)) = False := eq_false (by omega)
      obtain ⟨A1, m1, c1, w1, hr1, d6', f6', hput⟩ := got_put HJ.out.1 HJ.out.2.1 HJ.out.2.2.2 HB.out.2.2.2.1 (by omega)
      have HPUT := Lib.hid hput
      have HR1' := Lib.hid hr1
      have HGE := Lib.hid (show ∀ g, S' g → b10 ≤ g ∧ g < W'.heap.size from fun g hg => by
        have hb : BoxRow W' b10 b10 (p0.take m6) S' := ⟨_, HJ.out⟩
        exact ⟨(hb.lt hg).2, (hb.lt hg).1⟩)
      clear hput hr1
      gi_wp2_with (first | (gi_at_builtin; refine wpListIn_append_run _ rfl _ _ _ _ rfl _ _ rfl rfl _ _ HR1'.out ?_) | fail)
      obtain ⟨T6, hbr, hon, hnew⟩ := HPUT.out
      obtain ⟨h2, h3, h4, -, hkp, hnD, hnE, hlt⟩ := HB.out
      exact ⟨hon.block _ (by omega) hnD, hon.block _ hlt hnE, T6, ⟨hbr, h2.trans (hon.below (by have := h2.size; omega) (fun k hk e => by have := (HGE.out k e).1; omega)), by omega, fun g hg => by
        rcases hnew g hg with e | e
        · exact h4 g e
        · omega⟩, hon, hnew⟩
  case stop1 =>
    rw [hD]
    rintro cc W' ⟨rfl, hsp, S', h1, h2, h4⟩ hk
    have HZ := Lib.hid (show ∃ M, M = min p0.length (1 + s) ∧ BoxRow W' b10 b10 (p0.take M) S' ∧ Below b10 W12 W' ∧ W'.heap[D]? = some (.deferred (some [])) from ⟨s + 1, by omega, h1, h2, hk⟩)
    clear h1 h2 h4 hk hsp
    subst hact
    refine wpIn_wide.2 ?_
    obtain ⟨M, hM, hbr, h2, hk⟩ := HZ.out
    have hlow := HLW.out
    have hgr : Gr W' W.heap.size (.agg #[.slice (some ⟨q1, 0, none⟩) n n, .slice (some ⟨p1, 0, none⟩) n n]) b a S := (HY.out.2.1.later H12.out.2.1).only (Only.of_below h2) (fun g hg e => by have := (HY.out.2.1.lt hg).1; have := H12.out.2.2.2.2.2.2; omega)
    have hBB := (h2.block B hlow.2.2.2.2.2.2).trans ((H12.out.2.1.block _ (lt_blk HY.out.2.2.2.1)).trans HY.out.2.2.2.1)
    have hRR := (h2.block R hlow.2.2.2.2.1).trans ((H12.out.2.1.block _ (lt_blk HY.out.2.2.2.2.2)).trans HY.out.2.2.2.2.2)
    have hwr := H12.out.1.row.only (Only.of_below h2) (fun g hg e => by have := H12.out.2.2.2.2.1 g hg; omega)
    have hbel : Below W.heap.size W W' := (below_two HY.out.2.2.1 H12.out.2.1).trans (h2.mono (by have := HY.out.2.2.1.size; have := H12.out.2.2.2.2.2.2; omega))
    have H13 := Lib.hid (And.intro hgr (And.intro hBB (And.intro hRR (And.intro (HR1.out _ h2) (And.intro hwr (And.intro hbr (And.intro hk (And.intro hbel hM))))))))
    have x0 := cell_of_blk _ _ _ _ _ hBB 0
    have x1 := cell_of_blk _ _ _ _ _ hBB 1
    simp at x0 x1
    have hre := reached_calls hgr HF.out.2.1
    rw [HF.out.1] at hre
    have HRE := Lib.hid hre
    unfold mark
    clear hgr hBB hRR hwr hbel hM hbr h2 hk hre hlow HZ
    go_wp2_with fail
    clear x0 x1
    refine HRE.out.mono ?_
    rintro e Z ⟨q6, rfl, hs6, hq6, hb6⟩
    have hwh := dfs0_whole (nb b) n hn0 (fun i w hw => by have := nb_few HF.out.2.1 hw; rw [HF.out.1] at this; exact this)
    have HZ := Lib.hid (And.intro hs6 (And.intro hwh hb6))
    obtain ⟨sl, hsl⟩ : ∃ sl, (dfs0 (nb b) n).seen = sl := ⟨_, rfl⟩
    have HSL := Lib.hid hsl
    clear hs6 hwh hb6 HRE hsl hq6
    go_wp2_with fail
    go_loopw [46, 12] (fun v m wr => ∃ j : Nat, v = .int .i64 (j : Int) ∧ m = .int .i64 ((rch (nb b) j).length : Int) ∧ Hid (j ≤ n ∧ wr = Z)) (fun v _ _ => n - (intOf v).toNat)
    case atStart => exact ⟨0, rfl, rfl, Lib.hid ⟨Nat.zero_le _, rfl⟩⟩
    case round =>
      obtain ⟨j, rfl, rfl, HI⟩ := hrel
      obtain ⟨hj0, rfl⟩ := HI.out
      have hle := rch_le (nb b) j
      by_cases hj : j < n
      · have pp1 : ((j : Int) < (n : Int)) = True := eq_true (by omega)
        have j0 : 0 ≤ (j : Int) := by omega
        have j1 : (j : Int) < (n : Int) := by omega
        have cj := HZ.out.1.cell j (by rw [HZ.out.2.1.len]; exact hj)
        have hway := HZ.out.2.1.seen j hj
        obtain ⟨mj, hmj⟩ : ∃ mj, (rch (nb b) j).length = mj := ⟨_, rfl⟩
        have HMJ := Lib.hid hmj
        rw [hmj] at hle ⊢
        clear hmj
        cases hsb : (dfs0 (nb b) n).seen.getD j true
        · rw [hsb] at cj
          have HN := Lib.hid (show ¬ Way (nb b) 0 j from fun e => by have := hway.2 e; rw [hsb] at this; cases this)
          clear hway hsb
          go_wp2_with fail
          go_roundw
          case rel => exact ⟨j + 1, by go_num, by rw [rch_no HN.out, HMJ.out], Lib.hid ⟨by omega, trivial⟩⟩
          case measure => simp [intOf]; omega
        · rw [hsb] at cj
          have HN := Lib.hid (hway.1 hsb)
          clear hway hsb
          go_wp2_with fail
          go_roundw
          case rel => exact ⟨j + 1, by go_num, by rw [rch_yes HN.out, HMJ.out]; go_num, Lib.hid ⟨by omega, trivial⟩⟩
          case measure => simp [intOf]; omega
      · obtain rfl : n = j := by omega
        have pp1 : ((n : Int) < (n : Int)) = False := eq_false (by omega)
        rw [rch_all HDT.out, H4.out.2.2.2.2.2]
        have HTN := Lib.hid (tall_none wr)
        have hbz := HZ.out.2.2
        go_wp2_with fail
        refine HTN.out.mono ?_
        rintro e Z1 ⟨rfl, hZ1⟩
        obtain ⟨hx, hbx, hz⟩ := boxed hZ1.symm rfl
        obtain ⟨bE, hbE⟩ : ∃ k, wr.heap.size = k := ⟨_, rfl⟩
        rw [hbE] at hx ⊢
        have H14 := Lib.hid (And.intro hx (below_two hbz hbx))
        clear hZ1 hx hbx hz hbE HTN hbz
        go_wp2_with fail
        refine (wpIn_wide (n := 6)).1 ?_
        generalize hact : (Act.mk _ _ : Act) = a2
        refine wp_tree_none (bT := bE) (by rw [← hact]; rfl) H14.out.1 (fun Z2 ho hk2 => ?_)
        obtain ⟨E, hE⟩ : ∃ k, Z1.heap.size = k := ⟨_, rfl⟩
        rw [hE] at ho hk2 ⊢
        have hbZ : Below W'.heap.size W' Z2 := H14.out.2.trans (ho.below H14.out.2.size (fun k hk e => by have := H14.out.2.size; omega))
        obtain ⟨hgr, hBB, hRR, hR1, hwr, hbr, hkD, hbel, hM⟩ := H13.out
        have hDl := lt_blk hkD
        have hmk : Marks (b10 + 1) [E, D] Z2 := ⟨by simp; have := H14.out.2.size; omega, fun F hF => by
          rcases List.mem_cons.1 hF with rfl | hF
          · exact ⟨by have := H14.out.2.size; omega, hk2⟩
          · rw [List.mem_singleton.1 hF]
            exact ⟨hb10D, (hbZ.block D hDl).trans hkD⟩⟩
        have hpos := preT_pos up n n 0
        rw [H4.out.2.2.2.2.2] at hpos
        obtain ⟨v8, a1', a2', a3', a4'⟩ := (hwr.only (Only.of_below hbZ) (fun g hg e => by have := (hwr.lt hg).1; omega)).ex
        obtain ⟨A8, c8, e8', hc8, hc9, _⟩ := rowAt_slice a2'
        rw [e8'] at a1' a2'
        rw [List.length_map] at e8' a1' a2' hc8
        have hca := (rowAt_cells a2').2.1
        obtain ⟨g8, o8, hA8⟩ : ∃ g o, A8 = some ⟨g, o, none⟩ := by
          obtain ⟨g, o, e, _⟩ := hca 0 (by rw [ivs_len]; omega)
          exact ⟨g, o, e⟩
        rw [hA8] at a1' hca
        obtain ⟨v10, d1', d2', d3', d4'⟩ := (hbr.only (Only.of_below hbZ) (fun g hg e => by have := (hbr.lt hg).1; omega)).ex
        obtain ⟨A10, c10, e10', hc10, _⟩ := rowAt_slice d2'
        rw [e10'] at d1' d2'
        have hlM : ((p0.take M).map iv).length = M := by rw [List.length_map, List.length_take]; omega
        rw [hlM] at d1' d2'
        have hcd := (rowAt_cells d2').2.1
        have hcaM : SI.CellsAt (some ⟨g8, o8, none⟩) (ivs (p0.take M)) Z2 := fun i hi => by
          have hi2 : i < (ivs p0).length := by rw [ivs_len] at hi ⊢; simp at hi; omega
          obtain ⟨g, o, e, hc⟩ := hca i hi2
          refine ⟨g, o, e, ?_⟩
          rw [hc]
          simp [ivs]
        have hS0 : S25 W b8 b10 R1 B g8 o8 c8 p0.length A10 M c10 st q1 p1 n (ivs (p0.take M)) (ivs (p0.take M)) Z2 :=
          ⟨cell_of_blk _ _ _ _ _ a1' 0, cell_of_blk _ _ _ _ _ d1' 0, cell_of_blk _ _ _ _ _ ((hbZ.block R1 (lt_blk hR1)).trans hR1) 0, cell_of_blk _ _ _ _ _ ((hbZ.block B (lt_blk hBB)).trans hBB) 0, cell_of_blk _ _ _ _ _ ((hbZ.block B (lt_blk hBB)).trans hBB) 1, Lib.hid ⟨hcd, hcaM, below_two hbel hbZ⟩⟩
        have hS1 := hS0.later (X' := Z2.drew) ((Below.refl Z2.heap.size Z2).drew)
        have hRZ := (hbZ.block R (lt_blk hRR)).trans hRR
        have hlo := H12.out.1.low
        have HNE := Lib.hid (show W.heap.size ≤ R ∧ b8 ≠ R ∧ b10 ≠ R ∧ R1 ≠ R ∧ B ≠ R ∧ g8 ≠ R ∧ ∀ g o, A10 = some ⟨g, o, none⟩ → g ≠ R from by
          have k1 := HR.out
          have k2 := HLW.out.2.2.2.2.1
          have k3 := lt_blk HY.out.2.2.2.2.2
          have k4 := H4.out.2.2.1
          have k5 := H4.out.2.2.2.1
          refine ⟨k1.1, by omega, by omega, by omega, fun e => ?_, ?_, fun g o e => ?_⟩
          · subst e
            rw [hRR] at hBB
            exact absurd hBB (by simp)
          · rw [hA8] at a2'
            have := (a2'.lt (g := g8) rfl).2
            omega
          · rw [e] at d2'
            have := (d2'.lt (g := g) rfl).2
            omega)
        have hfR : Z2.frozen? ⟨R, 0, none⟩ = false := by simp [World.frozen?, hRZ]
        have cR := cell_of_blk _ _ _ _ _ hRZ 0
        simp at cR
        have HFN := Lib.hid (And.intro hmk (And.intro hRZ hM))
        have hmin : min (p0.length : Int) (1 + (s : Int)) = (M : Int) := by omega
        have hMc : (M : Int) ≤ (c8 : Int) := by omega
        have hM0 : 0 ≤ (M : Int) := by omega
        have hs7 : s < 8 := by have : st % 8 < 8 := Nat.mod_lt _ (by omega); omega
        have est : (st : Int).tmod 8 = (s : Int) := by rw [Int.tmod_eq_emod_of_nonneg (by omega)]; omega
        have ws : IntKind.i64.wrap (s : Int) = (s : Int) := by rw [IntKind.wrap_i64]; clear est; omega
        have wst : IntKind.i64.wrap (1 + (s : Int)) = 1 + (s : Int) := by rw [IntKind.wrap_i64]; clear est; omega
        clear ho hk2 hbZ hgr hBB hRR hR1 hwr hbr hkD hbel hM hDl hmk hpos a1' a2' a3' a4' e8' hc8 hc9 hca hA8 d1' d2' d3' d4' e10' hc10 hlM hcd hcaM hRZ hlo H13 H14 HZ
        unfold mark
        subst hact
        have hEq := SI.equal A10 (some ⟨g8, o8, none⟩) c10 c8 (ivs (p0.take M)) (ivs (p0.take M)) Z2.drew hS1.2.2.2.2.2.out.1 hS1.2.2.2.2.2.out.2.1 (by rw [ivs_len, List.length_take]; unfold maxLen; omega) (by rw [ivs_len, List.length_take]; unfold maxLen; omega)
        have hlM : (ivs (p0.take M)).length = M := by rw [ivs_len, List.length_take]; have := HFN.out.2.2; omega
        rw [hlM, decide_eq_true rfl] at hEq
        have HEQ := Lib.hid hEq
        clear hEq hlM
        go_wp2_with fail
        go_region_held3 (fun X => X.cell? ⟨b8, 0, none⟩ = some (.slice (some ⟨g8, o8, none⟩) p0.length c8) ∧ X.cell? ⟨b10, 0, none⟩ = some (.slice A10 M c10) ∧ X.cell? ⟨R1, 0, none⟩ = some (.int .u8 (st : Int)) ∧ X.cell? ⟨B, 0, none⟩ = some (.slice (some ⟨q1, 0, none⟩) n n) ∧ X.cell? ⟨B, 1, none⟩ = some (.slice (some ⟨p1, 0, none⟩) n n) ∧
            Hid (SI.CellsAt A10 (ivs (p0.take M)) X ∧ SI.CellsAt (some ⟨g8, o8, none⟩) (ivs (p0.take M)) X ∧ Below W.heap.size W X))
          (first | exact hS1 | exact hS0.later (below_drewN' _ _) | exact (hS0.later (below_drewN' _ _)).later hb2 | exact ((hS0.later (below_drewN' _ _)).later hb2).set HNE.out _)
          (first
            | (go_at_call 23; refine HEQ.out.mono ?_; rintro e z1 ⟨rfl, mm, rfl⟩)
            | (go_at_call 28; refine (len_calls q1 n p1 n n n _).mono ?_; rintro e z2 ⟨rfl, hb2⟩; have hz2 : z2.heap[R]? = some (.cells #[.bool false] 4 (0, 0)) := (hb2.block R (lt_blk HFN.out.2.1)).trans HFN.out.2.1; have cR2 : z2.cell? ⟨R, 0, none⟩ = some (.bool false) := cell_of_blk _ _ _ _ _ hz2 0; have fR2 : z2.frozen? ⟨R, 0, none⟩ = false := (by simp [World.frozen?, hz2])))
        rename_i hh
        have hbl := hh.2.2.2.2.2.out.2.2
        have hbz : Below Z2.heap.size Z2 z2 := below_two (below_drewN' Z2 _) hb2
        have hmk0 := HFN.out.1.only (Only.of_below hbz) (fun F hF e => by have := HFN.out.1.lt hF; omega)
        have hmk1 := hmk0.only (Only.setCell z2 ⟨R, 0, none⟩ (.bool true)) (fun F hF e => by have h1 := (hmk0.at_ F hF).1; have h2 := HLW.out.2.2.2.2.1; have e : F = R := e; omega)
        have hv2 : (z2.setCell ⟨R, 0, none⟩ (.bool true)).cell? ⟨R, 0, none⟩ = some (.bool true) := by simp [World.setCell, World.cell?, Array.getElem?_modify, hz2]
        have HV := Lib.hid (And.intro hv2 (And.intro hmk1 hbl))
        clear hh hbl hbz hmk0 hmk1 hv2 hb2 hz2 cR2 fR2 est ws wst hS0 hS1 hmin hMc hM0 hs7
        go_wp2_with fail
        refine Marks.leave (by simp) (lo := b10 + 1) [E, D] _ HV.out.2.1 (fun w' ho => ?_)
        have hq : w'.cell? ⟨R, 0, none⟩ = some (.bool true) := (ho.cell (p := ⟨R, 0, none⟩) (World.block_lt_of_cell? _ _ HV.out.1) (fun e => by have h1 : b10 + 1 ≤ R := (HV.out.2.1.at_ _ e).1; have h2 := HLW.out.2.2.2.2.1; omega)).trans HV.out.1
        refine ⟨.bool true, by simp [results, Try.results7, go_sem, hq], rfl, ?_⟩
        exact HV.out.2.2.trans (ho.below HV.out.2.2.size (fun k hk e => by have h1 := (HV.out.2.1.at_ k e).1; have h2 := HR.out.1; have h3 := HLW.out.2.2.2.2.1; omega))
  case done1 =>
    rw [hD]
    rintro S' W' ⟨h1, h2, h3, h4⟩ hk
    rw [H4.out.2.2.2.2.2] at h1 h3
    have HZ := Lib.hid (show ∃ M, M = min p0.length (1 + s) ∧ BoxRow W' b10 b10 (p0.take M) S' ∧ Below b10 W12 W' ∧ W'.heap[D]? = some (.deferred (some [])) from ⟨p0.length, by omega, h1, h2, hk⟩)
    clear h1 h2 h3 h4 hk
    subst hact
    obtain ⟨M, hM, hbr, h2, hk⟩ := HZ.out
    have hlow := HLW.out
    have hgr : Gr W' W.heap.size (.agg #[.slice (some ⟨q1, 0, none⟩) n n, .slice (some ⟨p1, 0, none⟩) n n]) b a S := (HY.out.2.1.later H12.out.2.1).only (Only.of_below h2) (fun g hg e => by have := (HY.out.2.1.lt hg).1; have := H12.out.2.2.2.2.2.2; omega)
    have hBB := (h2.block B hlow.2.2.2.2.2.2).trans ((H12.out.2.1.block _ (lt_blk HY.out.2.2.2.1)).trans HY.out.2.2.2.1)
    have hRR := (h2.block R hlow.2.2.2.2.1).trans ((H12.out.2.1.block _ (lt_blk HY.out.2.2.2.2.2)).trans HY.out.2.2.2.2.2)
    have hwr := H12.out.1.row.only (Only.of_below h2) (fun g hg e => by have := H12.out.2.2.2.2.1 g hg; omega)
    have hbel : Below W.heap.size W W' := (below_two HY.out.2.2.1 H12.out.2.1).trans (h2.mono (by have := HY.out.2.2.1.size; have := H12.out.2.2.2.2.2.2; omega))
    have H13 := Lib.hid (And.intro hgr (And.intro hBB (And.intro hRR (And.intro (HR1.out _ h2) (And.intro hwr (And.intro hbr (And.intro hk (And.intro hbel hM))))))))
    have x0 := cell_of_blk _ _ _ _ _ hBB 0
    have x1 := cell_of_blk _ _ _ _ _ hBB 1
    simp at x0 x1
    have hre := reached_calls hgr HF.out.2.1
    rw [HF.out.1] at hre
    have HRE := Lib.hid hre
    unfold mark
    clear hgr hBB hRR hwr hbel hM hbr h2 hk hre hlow HZ
    go_wp2_with fail
    clear x0 x1
    refine HRE.out.mono ?_
    rintro e Z ⟨q6, rfl, hs6, hq6, hb6⟩
    have hwh := dfs0_whole (nb b) n hn0 (fun i w hw => by have := nb_few HF.out.2.1 hw; rw [HF.out.1] at this; exact this)
    have HZ := Lib.hid (And.intro hs6 (And.intro hwh hb6))
    obtain ⟨sl, hsl⟩ : ∃ sl, (dfs0 (nb b) n).seen = sl := ⟨_, rfl⟩
    have HSL := Lib.hid hsl
    clear hs6 hwh hb6 HRE hsl hq6
    go_wp2_with fail
    go_loopw [46, 12] (fun v m wr => ∃ j : Nat, v = .int .i64 (j : Int) ∧ m = .int .i64 ((rch (nb b) j).length : Int) ∧ Hid (j ≤ n ∧ wr = Z)) (fun v _ _ => n - (intOf v).toNat)
    case atStart => exact ⟨0, rfl, rfl, Lib.hid ⟨Nat.zero_le _, rfl⟩⟩
    case round =>
      obtain ⟨j, rfl, rfl, HI⟩ := hrel
      obtain ⟨hj0, rfl⟩ := HI.out
      have hle := rch_le (nb b) j
      by_cases hj : j < n
      · have pp1 : ((j : Int) < (n : Int)) = True := eq_true (by omega)
        have j0 : 0 ≤ (j : Int) := by omega
        have j1 : (j : Int) < (n : Int) := by omega
        have cj := HZ.out.1.cell j (by rw [HZ.out.2.1.len]; exact hj)
        have hway := HZ.out.2.1.seen j hj
        obtain ⟨mj, hmj⟩ : ∃ mj, (rch (nb b) j).length = mj := ⟨_, rfl⟩
        have HMJ := Lib.hid hmj
        rw [hmj] at hle ⊢
        clear hmj
        cases hsb : (dfs0 (nb b) n).seen.getD j true
        · rw [hsb] at cj
          have HN := Lib.hid (show ¬ Way (nb b) 0 j from fun e => by have := hway.2 e; rw [hsb] at this; cases this)
          clear hway hsb
          go_wp2_with fail
          go_roundw
          case rel => exact ⟨j + 1, by go_num, by rw [rch_no HN.out, HMJ.out], Lib.hid ⟨by omega, trivial⟩⟩
          case measure => simp [intOf]; omega
        · rw [hsb] at cj
          have HN := Lib.hid (hway.1 hsb)
          clear hway hsb
          go_wp2_with fail
          go_roundw
          case rel => exact ⟨j + 1, by go_num, by rw [rch_yes HN.out, HMJ.out]; go_num, Lib.hid ⟨by omega, trivial⟩⟩
          case measure => simp [intOf]; omega
      · obtain rfl : n = j := by omega
        have pp1 : ((n : Int) < (n : Int)) = False := eq_false (by omega)
        rw [rch_all HDT.out, H4.out.2.2.2.2.2]
        have HTN := Lib.hid (tall_none wr)
        have hbz := HZ.out.2.2
        go_wp2_with fail
        refine HTN.out.mono ?_
        rintro e Z1 ⟨rfl, hZ1⟩
        obtain ⟨hx, hbx, hz⟩ := boxed hZ1.symm rfl
        obtain ⟨bE, hbE⟩ : ∃ k, wr.heap.size = k := ⟨_, rfl⟩
        rw [hbE] at hx ⊢
        have H14 := Lib.hid (And.intro hx (below_two hbz hbx))
        clear hZ1 hx hbx hz hbE HTN hbz
        go_wp2_with fail
        refine (wpIn_wide (n := 6)).1 ?_
        generalize hact : (Act.mk _ _ : Act) = a2
        refine wp_tree_none (bT := bE) (by rw [← hact]; rfl) H14.out.1 (fun Z2 ho hk2 => ?_)
        obtain ⟨E, hE⟩ : ∃ k, Z1.heap.size = k := ⟨_, rfl⟩
        rw [hE] at ho hk2 ⊢
        have hbZ : Below W'.heap.size W' Z2 := H14.out.2.trans (ho.below H14.out.2.size (fun k hk e => by have := H14.out.2.size; omega))
        obtain ⟨hgr, hBB, hRR, hR1, hwr, hbr, hkD, hbel, hM⟩ := H13.out
        have hDl := lt_blk hkD
        have hmk : Marks (b10 + 1) [E, D] Z2 := ⟨by simp; have := H14.out.2.size; omega, fun F hF => by
          rcases List.mem_cons.1 hF with rfl | hF
          · exact ⟨by have := H14.out.2.size; omega, hk2⟩
          · rw [List.mem_singleton.1 hF]
            exact ⟨hb10D, (hbZ.block D hDl).trans hkD⟩⟩
        have hpos := preT_pos up n n 0
        rw [H4.out.2.2.2.2.2] at hpos
        obtain ⟨v8, a1', a2', a3', a4'⟩ := (hwr.only (Only.of_below hbZ) (fun g hg e => by have := (hwr.lt hg).1; omega)).ex
        obtain ⟨A8, c8, e8', hc8, hc9, _⟩ := rowAt_slice a2'
        rw [e8'] at a1' a2'
        rw [List.length_map] at e8' a1' a2' hc8
        have hca := (rowAt_cells a2').2.1
        obtain ⟨g8, o8, hA8⟩ : ∃ g o, A8 = some ⟨g, o, none⟩ := by
          obtain ⟨g, o, e, _⟩ := hca 0 (by rw [ivs_len]; omega)
          exact ⟨g, o, e⟩
        rw [hA8] at a1' hca
        obtain ⟨v10, d1', d2', d3', d4'⟩ := (hbr.only (Only.of_below hbZ) (fun g hg e => by have := (hbr.lt hg).1; omega)).ex
        obtain ⟨A10, c10, e10', hc10, _⟩ := rowAt_slice d2'
        rw [e10'] at d1' d2'
        have hlM : ((p0.take M).map iv).length = M := by rw [List.length_map, List.length_take]; omega
        rw [hlM] at d1' d2'
        have hcd := (rowAt_cells d2').2.1
        have hcaM : SI.CellsAt (some ⟨g8, o8, none⟩) (ivs (p0.take M)) Z2 := fun i hi => by
          have hi2 : i < (ivs p0).length := by rw [ivs_len] at hi ⊢; simp at hi; omega
          obtain ⟨g, o, e, hc⟩ := hca i hi2
          refine ⟨g, o, e, ?_⟩
          rw [hc]
          simp [ivs]
        have hS0 : S25 W b8 b10 R1 B g8 o8 c8 p0.length A10 M c10 st q1 p1 n (ivs (p0.take M)) (ivs (p0.take M)) Z2 :=
          ⟨cell_of_blk _ _ _ _ _ a1' 0, cell_of_blk _ _ _ _ _ d1' 0, cell_of_blk _ _ _ _ _ ((hbZ.block R1 (lt_blk hR1)).trans hR1) 0, cell_of_blk _ _ _ _ _ ((hbZ.block B (lt_blk hBB)).trans hBB) 0, cell_of_blk _ _ _ _ _ ((hbZ.block B (lt_blk hBB)).trans hBB) 1, Lib.hid ⟨hcd, hcaM, below_two hbel hbZ⟩⟩
        have hS1 := hS0.later (X' := Z2.drew) ((Below.refl Z2.heap.size Z2).drew)
        have hRZ := (hbZ.block R (lt_blk hRR)).trans hRR
        have hlo := H12.out.1.low
        have HNE := Lib.hid (show W.heap.size ≤ R ∧ b8 ≠ R ∧ b10 ≠ R ∧ R1 ≠ R ∧ B ≠ R ∧ g8 ≠ R ∧ ∀ g o, A10 = some ⟨g, o, none⟩ → g ≠ R from by
          have k1 := HR.out
          have k2 := HLW.out.2.2.2.2.1
          have k3 := lt_blk HY.out.2.2.2.2.2
          have k4 := H4.out.2.2.1
          have k5 := H4.out.2.2.2.1
          refine ⟨k1.1, by omega, by omega, by omega, fun e => ?_, ?_, fun g o e => ?_⟩
          · subst e
            rw [hRR] at hBB
            exact absurd hBB (by simp)
          · rw [hA8] at a2'
            have := (a2'.lt (g := g8) rfl).2
            omega
          · rw [e] at d2'
            have := (d2'.lt (g := g) rfl).2
            omega)
        have hfR : Z2.frozen? ⟨R, 0, none⟩ = false := by simp [World.frozen?, hRZ]
        have cR := cell_of_blk _ _ _ _ _ hRZ 0
        simp at cR
        have HFN := Lib.hid (And.intro hmk (And.intro hRZ hM))
        have hmin : min (p0.length : Int) (1 + (s : Int)) = (M : Int) := by omega
        have hMc : (M : Int) ≤ (c8 : Int) := by omega
        have hM0 : 0 ≤ (M : Int) := by omega
        have hs7 : s < 8 := by have : st % 8 < 8 := Nat.mod_lt _ (by omega); omega
        have est : (st : Int).tmod 8 = (s : Int) := by rw [Int.tmod_eq_emod_of_nonneg (by omega)]; omega
        have ws : IntKind.i64.wrap (s : Int) = (s : Int) := by rw [IntKind.wrap_i64]; clear est; omega
        have wst : IntKind.i64.wrap (1 + (s : Int)) = 1 + (s : Int) := by rw [IntKind.wrap_i64]; clear est; omega
        clear ho hk2 hbZ hgr hBB hRR hR1 hwr hbr hkD hbel hM hDl hmk hpos a1' a2' a3' a4' e8' hc8 hc9 hca hA8 d1' d2' d3' d4' e10' hc10 hlM hcd hcaM hRZ hlo H13 H14 HZ
        unfold mark
        subst hact
        have hEq := SI.equal A10 (some ⟨g8, o8, none⟩) c10 c8 (ivs (p0.take M)) (ivs (p0.take M)) Z2.drew hS1.2.2.2.2.2.out.1 hS1.2.2.2.2.2.out.2.1 (by rw [ivs_len, List.length_take]; unfold maxLen; omega) (by rw [ivs_len, List.length_take]; unfold maxLen; omega)
        have hlM : (ivs (p0.take M)).length = M := by rw [ivs_len, List.length_take]; have := HFN.out.2.2; omega
        rw [hlM, decide_eq_true rfl] at hEq
        have HEQ := Lib.hid hEq
        clear hEq hlM
        go_wp2_with fail
        go_region_held3 (fun X => X.cell? ⟨b8, 0, none⟩ = some (.slice (some ⟨g8, o8, none⟩) p0.length c8) ∧ X.cell? ⟨b10, 0, none⟩ = some (.slice A10 M c10) ∧ X.cell? ⟨R1, 0, none⟩ = some (.int .u8 (st : Int)) ∧ X.cell? ⟨B, 0, none⟩ = some (.slice (some ⟨q1, 0, none⟩) n n) ∧ X.cell? ⟨B, 1, none⟩ = some (.slice (some ⟨p1, 0, none⟩) n n) ∧
            Hid (SI.CellsAt A10 (ivs (p0.take M)) X ∧ SI.CellsAt (some ⟨g8, o8, none⟩) (ivs (p0.take M)) X ∧ Below W.heap.size W X))
          (first | exact hS1 | exact hS0.later (below_drewN' _ _) | exact (hS0.later (below_drewN' _ _)).later hb2 | exact ((hS0.later (below_drewN' _ _)).later hb2).set HNE.out _)
          (first
            | (go_at_call 23; refine HEQ.out.mono ?_; rintro e z1 ⟨rfl, mm, rfl⟩)
            | (go_at_call 28; refine (len_calls q1 n p1 n n n _).mono ?_; rintro e z2 ⟨rfl, hb2⟩; have hz2 : z2.heap[R]? = some (.cells #[.bool false] 4 (0, 0)) := (hb2.block R (lt_blk HFN.out.2.1)).trans HFN.out.2.1; have cR2 : z2.cell? ⟨R, 0, none⟩ = some (.bool false) := cell_of_blk _ _ _ _ _ hz2 0; have fR2 : z2.frozen? ⟨R, 0, none⟩ = false := (by simp [World.frozen?, hz2])))
        rename_i hh
        have hbl := hh.2.2.2.2.2.out.2.2
        have hbz : Below Z2.heap.size Z2 z2 := below_two (below_drewN' Z2 _) hb2
        have hmk0 := HFN.out.1.only (Only.of_below hbz) (fun F hF e => by have := HFN.out.1.lt hF; omega)
        have hmk1 := hmk0.only (Only.setCell z2 ⟨R, 0, none⟩ (.bool true)) (fun F hF e => by have h1 := (hmk0.at_ F hF).1; have h2 := HLW.out.2.2.2.2.1; have e : F = R := e; omega)
        have hv2 : (z2.setCell ⟨R, 0, none⟩ (.bool true)).cell? ⟨R, 0, none⟩ = some (.bool true) := by simp [World.setCell, World.cell?, Array.getElem?_modify, hz2]
        have HV := Lib.hid (And.intro hv2 (And.intro hmk1 hbl))
        clear hh hbl hbz hmk0 hmk1 hv2 hb2 hz2 cR2 fR2 est ws wst hS0 hS1 hmin hMc hM0 hs7
        go_wp2_with fail
        refine Marks.leave (by simp) (lo := b10 + 1) [E, D] _ HV.out.2.1 (fun w' ho => ?_)
        have hq : w'.cell? ⟨R, 0, none⟩ = some (.bool true) := (ho.cell (p := ⟨R, 0, none⟩) (World.block_lt_of_cell? _ _ HV.out.1) (fun e => by have h1 : b10 + 1 ≤ R := (HV.out.2.1.at_ _ e).1; have h2 := HLW.out.2.2.2.2.1; omega)).trans HV.out.1
        refine ⟨.bool true, by simp [results, Try.results7, go_sem, hq], rfl, ?_⟩
        exact HV.out.2.2.trans (ho.below HV.out.2.2.size (fun k hk e => by have h1 := (HV.out.2.1.at_ k e).1; have h2 := HR.out.1; have h3 := HLW.out.2.2.2.2.1; omega))
set_option maxHeartbeats 2000000 in
theorem dal_far (N st : Nat) (A : Option Addr) (c : Nat) (es : List (Nat × Nat)) (W : World) (hl : ¬ es.length ≤ 40) :
    Calls Try.prog 7 #[.agg #[.int .u8 N, .slice A es.length c], .int .u8 (st : Int)] W fun e W' => e = .returned (.bool true) ∧ Below W.heap.size W W' := by
  go_enter Try.func7, Try.ntmps7
  go_wp2_with fail
  generalize hX : World.alloc (World.alloc (World.alloc W _) _) _ = X
  obtain ⟨hx, hx1, hx2, hz, hbx⟩ := three3 hX
  have HX := Lib.hid (And.intro hx (And.intro hbx (And.intro hx1 hx2)))
  clear hX hx hx1 hx2 hbx hz
  refine (awake8 X).mono ?_
  rintro e W1 ⟨rfl, hb⟩
  have H1 := Lib.hid (And.intro ((hb.block _ (lt_blk HX.out.1)).trans HX.out.1) (And.intro (below_two HX.out.2.1 hb) ((hb.block _ (lt_blk HX.out.2.2.2)).trans HX.out.2.2.2)))
  clear hb HX
  have x0 := cell_of_blk _ _ _ _ _ H1.out.1 0
  have x1 := cell_of_blk _ _ _ _ _ H1.out.1 1
  simp at x0 x1
  go_wp2_with fail
  clear x0 x1
  refine (light_calls7 N A es.length c W1).mono ?_
  rintro e W2 ⟨rfl, hb⟩
  have hbel := below_two H1.out.2.1 hb
  have hr := (hb.block _ (lt_blk H1.out.2.2)).trans H1.out.2.2
  have x2 : W2.cell? ⟨W.heap.size + 1 + 1, 0, none⟩ = some (.bool false) := cell_of_blk _ _ _ _ _ hr 0
  have f2 : W2.frozen? ⟨W.heap.size + 1 + 1, 0, none⟩ = false := by simp [World.frozen?, hr]
  rw [decide_eq_false hl]
  clear hb H1
  go_wp2_with fail
  have v2 : (W2.setCell ⟨W.heap.size + 1 + 1, 0, none⟩ (.bool true)).cell? ⟨W.heap.size + 1 + 1, 0, none⟩ = some (.bool true) := by simp [World.setCell, World.cell?, Array.getElem?_modify, hr]
  exact bodyPost_ret (v := .bool true) (by simp [results, Try.results7, go_sem, v2]) rfl ⟨rfl, hbel.setCell (by show W.heap.size ≤ W.heap.size + 1 + 1; omega) _⟩
theorem dal_int (N : Nat) (hN : N ≤ 255) (x : Int) (hx : 0 ≤ x ∧ x ≤ 255) (A : Option Addr) (c : Nat) (es : List (Nat × Nat)) (W : World) (hA : Edges W A es) (hc : es.length ≤ c) :
    Calls Try.prog 7 #[.agg #[.int .u8 N, .slice A es.length c], .int .u8 x] W fun e W' => e = .returned (.bool true) ∧ Below W.heap.size W W' := by
  obtain ⟨st, rfl⟩ := Int.eq_ofNat_of_zero_le hx.1
  by_cases hl : es.length ≤ 40
  · exact dal_near N hN st (by omega) A c es W hA hc hl
  · exact dal_far N st A c es W hl
end Go.Proofs.Ytnkbbjeepdjamaa
