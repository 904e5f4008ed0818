/- refinerylaw07.Small.Graph: the graph, and the rows of places behind each. Conditions: the numbers are of their kinds; few ways. -/
import Derived.Test.YtnkbbjeepdjamaaGAwake
import Derived.LoopTactic
import Derived.Outline
namespace Go.Proofs.Ytnkbbjeepdjamaa
open Go.RowKit
def joinB (b : List (List Nat)) (i j : Nat) : List (List Nat) := if j ∈ b.getD i [] then b else b.set i (b.getD i [] ++ [j])
def joinA (b a : List (List Nat)) (i j : Nat) : List (List Nat) := if j ∈ b.getD i [] then a else a.set j (sortN (a.getD j [] ++ [i]))
def graphBA (n : Nat) (es : List (Nat × Nat)) : List (List Nat) × List (List Nat) := es.foldl (fun s e => (joinB s.1 (e.1 % n) (e.2 % n), joinA s.1 s.2 (e.1 % n) (e.2 % n))) (List.replicate n [], List.replicate n [])
def graphB (n : Nat) (es : List (Nat × Nat)) : List (List Nat) := (graphBA n es).1
def graphA (n : Nat) (es : List (Nat × Nat)) : List (List Nat) := (graphBA n es).2
theorem graphB_snoc (n : Nat) (es : List (Nat × Nat)) (e : Nat × Nat) : graphB n (es ++ [e]) = joinB (graphB n es) (e.1 % n) (e.2 % n) := by simp [graphB, graphBA]
theorem graphA_snoc (n : Nat) (es : List (Nat × Nat)) (e : Nat × Nat) : graphA n (es ++ [e]) = joinA (graphB n es) (graphA n es) (e.1 % n) (e.2 % n) := by simp [graphA, graphB, graphBA]
theorem joinB_len (b : List (List Nat)) (i j : Nat) : (joinB b i j).length = b.length := by unfold joinB; split <;> simp
theorem joinA_len (b a : List (List Nat)) (i j : Nat) : (joinA b a i j).length = a.length := by unfold joinA; split <;> simp
/-- Rows of places: few, each place below the number of places. -/
structure Rows12 (n m : Nat) (b a : List (List Nat)) : Prop where
  lb : b.length = n
  la : a.length = n
  few : ∀ (i : Nat) (l : List Nat), b[i]? = some l → l.length ≤ m ∧ ∀ x ∈ l, x < n
  fewA : ∀ (i : Nat) (l : List Nat), a[i]? = some l → l.length ≤ m ∧ ∀ x ∈ l, x < n
theorem sortN_mem (l : List Nat) (x : Nat) : x ∈ sortN l ↔ x ∈ l := (List.mergeSort_perm l _).mem_iff
theorem sortN_len (l : List Nat) : (sortN l).length = l.length := List.length_mergeSort l
theorem Rows12.join {n m : Nat} {b a : List (List Nat)} (h : Rows12 n m b a) (i j : Nat) (hi : i < n) (hj : j < n) : Rows12 n (m + 1) (joinB b i j) (joinA b a i j) := by
  have up : ∀ {l : List Nat}, (l.length ≤ m ∧ ∀ x ∈ l, x < n) → l.length ≤ m + 1 ∧ ∀ x ∈ l, x < n := fun h => ⟨by omega, h.2⟩
  have gb : (b.getD i []).length ≤ m ∧ ∀ x ∈ b.getD i [], x < n := h.few i _ (by rw [List.getD_eq_getElem?_getD, List.getElem?_eq_getElem (by rw [h.lb]; exact hi)]; rfl)
  have ga : (a.getD j []).length ≤ m ∧ ∀ x ∈ a.getD j [], x < n := h.fewA j _ (by rw [List.getD_eq_getElem?_getD, List.getElem?_eq_getElem (by rw [h.la]; exact hj)]; rfl)
  refine ⟨by rw [joinB_len, h.lb], by rw [joinA_len, h.la], fun k l hl => ?_, fun k l hl => ?_⟩
  · unfold joinB at hl
    split at hl
    · exact up (h.few k l hl)
    · by_cases e : i = k
      · subst e
        rw [List.getElem?_set_self (by rw [h.lb]; exact hi)] at hl
        cases hl
        refine ⟨by rw [List.length_append, List.length_singleton]; omega, fun x hx => ?_⟩
        rcases List.mem_append.1 hx with hx | hx
        · exact gb.2 x hx
        · simp at hx; omega
      · rw [List.getElem?_set_ne e] at hl
        exact up (h.few k l hl)
  · unfold joinA at hl
    split at hl
    · exact up (h.fewA k l hl)
    · by_cases e : j = k
      · subst e
        rw [List.getElem?_set_self (by rw [h.la]; exact hj)] at hl
        cases hl
        refine ⟨by rw [sortN_len, List.length_append, List.length_singleton]; omega, fun x hx => ?_⟩
        rcases List.mem_append.1 ((sortN_mem _ _).1 hx) with hx | hx
        · exact ga.2 x hx
        · simp at hx; omega
      · rw [List.getElem?_set_ne e] at hl
        exact up (h.fewA k l hl)
theorem rows_new (n : Nat) : Rows12 n 0 (List.replicate n []) (List.replicate n []) :=
  have h : ∀ (i : Nat) (l : List Nat), (List.replicate n ([] : List Nat))[i]? = some l → l.length ≤ 0 ∧ ∀ x ∈ l, x < n := fun i l hl => by
    rw [List.getElem?_replicate] at hl
    split at hl
    · cases hl; exact ⟨Nat.le_refl _, by simp⟩
    · cases hl
  ⟨by simp, by simp, h, h⟩
theorem graph_rows (n : Nat) (hn : 0 < n) (es : List (Nat × Nat)) : Rows12 n es.length (graphB n es) (graphA n es) := by
  suffices h : ∀ (k : Nat), Rows12 n (es.take k).length (graphB n (es.take k)) (graphA n (es.take k)) by
    have := h es.length; rwa [List.take_length] at this
  intro k
  induction k with
  | zero => simpa [graphB, graphA, graphBA] using rows_new n
  | succ k ih =>
    by_cases hk : k < es.length
    · rw [take_snoc' es k _ (List.getElem?_eq_getElem hk), graphB_snoc, graphA_snoc, List.length_append]
      exact ih.join _ _ (Nat.mod_lt _ hn) (Nat.mod_lt _ hn)
    · rw [List.take_of_length_le (by omega)]
      rwa [List.take_of_length_le (by omega)] at ih
theorem Rows12.fewOf {n m : Nat} {b a : List (List Nat)} (h : Rows12 n m b a) (hn : n ≤ 1048575) : Few b := ⟨by rw [h.lb]; exact hn, fun i l hl x hx => by rw [h.lb]; exact (h.few i l hl).2 x hx⟩
/-- The ways, in memory: two small numbers each. -/
def Edges (w : World) (A : Option Addr) (es : List (Nat × Nat)) : Prop := ∀ (i : Nat) (x y : Nat), es[i]? = some (x, y) → x ≤ 255 ∧ y ≤ 255 ∧ ∃ g o, A = some ⟨g, o, none⟩ ∧ w.cell? ⟨g, o + i * 2, none⟩ = some (.int .u8 x) ∧ w.cell? ⟨g, o + i * 2 + 1, none⟩ = some (.int .u8 y)
theorem Edges.later {w w' : World} {A : Option Addr} {es : List (Nat × Nat)} (h : Edges w A es) (hb : Below w.heap.size w w') : Edges w' A es := by
  intro i x y hi
  obtain ⟨h1, h2, g, o, e, c1, c2⟩ := h i x y hi
  exact ⟨h1, h2, g, o, e, (hb.cell (p := ⟨g, o + i * 2, none⟩) (World.block_lt_of_cell? w _ c1)).trans c1, (hb.cell (p := ⟨g, o + i * 2 + 1, none⟩) (World.block_lt_of_cell? w _ c2)).trans c2⟩
theorem RowAt.lower {w : World} {base base' : Nat} {e : TypeId} {v : Value} {vs : List Value} (h : RowAt w base e v vs) (hb : base' ≤ base) : RowAt w base' e v vs := by
  rcases h with h | ⟨g, o, cap, cur, hv, hg, r⟩
  · exact .inl h
  · exact .inr ⟨g, o, cap, cur, hv, Nat.le_trans hb hg, r⟩
theorem Mat.lower {w : World} {base base' q : Nat} {vs : List Value} {f : List (List Nat)} (h : Mat w base q vs f) (hb : base' ≤ base) : Mat w base' q vs f :=
  ⟨h.blk, h.len, Nat.le_trans hb h.ge, fun i v l hv hl => (h.row i v l hv hl).lower hb, h.inj⟩
theorem Gr.lower {w : World} {base base' : Nat} {gv : Value} {b a : List (List Nat)} {S : Nat → Prop} (h : Gr w base gv b a S) (hb : base' ≤ base) : Gr w base' gv b a S := by
  obtain ⟨q, p, vs, us, e, h1, h2, r⟩ := h.ex
  exact ⟨q, p, vs, us, e, h1.lower hb, h2.lower hb, r⟩
/-- What Graph gives. -/
def SmallPost (w : World) (n : Nat) (es : List (Nat × Nat)) (e : Ending) (w' : World) : Prop :=
  ∃ gv q vs S, e = .returned (.tuple #[gv, .slice (some ⟨q, 0, none⟩) n n]) ∧ Gr w' w.heap.size gv (graphB n es) (graphA n es) S ∧ Mat w' w.heap.size q vs (graphB n es) ∧ (∀ g, MatB q vs g → ¬ S g) ∧ Below w.heap.size w w'
/-- While the graph is made: some edges are in; the boxes. -/
structure SG (w : World) (n : Nat) (es : List (Nat × Nat)) (j B : Nat) (gv : Value) (q : Nat) (wr : World) (vs : List Value) (S : Nat → Prop) : Prop where
  gr : Gr wr w.heap.size gv (graphB n (es.take j)) (graphA n (es.take j)) S
  mat : Mat wr w.heap.size q vs (graphB n (es.take j))
  apart : ∀ g, MatB q vs g → ¬ S g
  below : Below w.heap.size w wr
  b1 : wr.heap[w.heap.size + 1]? = some (.cells #[.slice none 0 0, .slice none 0 0] 28 (0, 0))
  b5 : wr.heap[B]? = some (.cells gv.cells 28 (0, 0))
  n1 : ¬ S (w.heap.size + 1) ∧ ¬ MatB q vs (w.heap.size + 1)
  n5 : ¬ S B ∧ ¬ MatB q vs B
theorem SG.later {w wr w' : World} {n : Nat} {es : List (Nat × Nat)} {j B : Nat} {gv : Value} {q : Nat} {vs : List Value} {S : Nat → Prop} (h : SG w n es j B gv q wr vs S) (hb : Below wr.heap.size wr w') : SG w n es j B gv q w' vs S :=
  ⟨h.gr.later hb, h.mat.later hb, h.apart, h.below.trans (hb.mono h.below.size), (hb.block _ (lt_blk h.b1)).trans h.b1, (hb.block _ (lt_blk h.b5)).trans h.b5, h.n1, h.n5⟩
theorem SG.next {w Z w3 W : World} {n : Nat} {es : List (Nat × Nat)} {j B : Nat} {gv : Value} {q : Nat} {vs vs' : List Value} {S S3 : Nat → Prop} (h : SG w n es j B gv q Z vs S)
    (hg : Gr w3 w.heap.size gv (graphB n (es.take (j + 1))) (graphA n (es.take (j + 1))) S3) (ho3 : Only S Z w3) (hs3 : ∀ g, S3 g → S g ∨ Z.heap.size ≤ g)
    (hm : Mat W w.heap.size q vs' (graphB n (es.take (j + 1)))) (ho : Only (MatB q vs) w3 W) (hn : ∀ g, MatB q vs' g → MatB q vs g ∨ w3.heap.size ≤ g) : SG w n es (j + 1) B gv q W vs' S3 := by
  have z3 := ho3.size
  have lq : ∀ g, MatB q vs g → g < Z.heap.size ∧ w.heap.size ≤ g := fun g hg => h.mat.lt hg
  have lS : ∀ g, S g → g < Z.heap.size ∧ w.heap.size ≤ g := fun g hg => h.gr.lt hg
  have e1 : ∀ g, S3 g → ¬ MatB q vs g := fun g h3 hq => (hs3 g h3).elim (fun e => h.apart g hq e) (fun e => by have := (lq g hq).1; omega)
  have l1 := lt_blk h.b1
  have l5 := lt_blk h.b5
  have nS : ∀ {x}, x < Z.heap.size → ¬ S x → ¬ S3 x := fun hx hns e => (hs3 _ e).elim hns (fun e => by omega)
  have nq : ∀ {x}, x < Z.heap.size → ¬ MatB q vs x → ¬ MatB q vs' x := fun hx hns e => (hn _ e).elim hns (fun e => by omega)
  refine ⟨hg.only ho (fun g h3 hq => e1 g h3 hq), hm, fun g hq h3 => ?_, ?_, ?_, ?_, ⟨nS l1 h.n1.1, nq l1 h.n1.2⟩, ⟨nS l5 h.n5.1, nq l5 h.n5.2⟩⟩
  · rcases hn g hq with e | e
    · exact e1 g h3 e
    · have := (hg.lt h3).1; omega
  · exact (h.below.trans (ho3.below h.below.size (fun k hk e => by have := (lS k e).2; omega))).trans (ho.below (Nat.le_trans h.below.size z3) (fun k hk e => by have := (lq k e).2; omega))
  · exact (ho.block _ (by omega) h.n1.2).trans ((ho3.block _ l1 h.n1.1).trans h.b1)
  · exact (ho.block _ (by omega) h.n5.2).trans ((ho3.block _ l5 h.n5.1).trans h.b5)
theorem modW {x n i : Nat} (hx : x ≤ 255) (hi : x % n = i) : (wrap64 (x : Int)).tmod (n : Int) = (i : Int) := by
  rw [show wrap64 (x : Int) = (x : Int) by simp only [wrap64]; omega, Int.tmod_eq_emod_of_nonneg (by omega), ← hi]
  omega
theorem below_drewN' (w : World) (n : Nat) : Below w.heap.size w (w.drewN n) := ⟨rfl, rfl, rfl, Nat.le_refl _, fun _ _ => rfl⟩
theorem getD_some {b : List (List Nat)} {i : Nat} (hi : i < b.length) : b[i]? = some (b.getD i []) := by
  rw [List.getD_eq_getElem?_getD, List.getElem?_eq_getElem hi]; rfl
theorem join_any {w : World} {base : Nat} {gv : Value} {b a : List (List Nat)} {S : Nat → Prop} (h : Gr w base gv b a S) (i j : Nat) (hi : i < b.length) (hj : j < b.length) (hn1 : (b.getD i []).length ≤ 1048575) (hn2 : (a.getD j []).length ≤ 1048575) :
    Calls Try.prog 27 #[gv, .int .i64 i, .int .i64 j] w (JoinPost w base gv (joinB b i j) (joinA b a i j) S) := by
  have hla : a.length = b.length := by obtain ⟨_, _, _, _, _, _, _, h, _⟩ := h.ex; exact h
  by_cases hin : j ∈ b.getD i []
  · refine (join_old h i j (b.getD i []) (getD_some hi) hj hin).mono ?_
    rintro e w' ⟨rfl, hb⟩
    unfold joinB joinA
    rw [if_pos hin, if_pos hin]
    exact ⟨rfl, S, h.later hb, (Only.of_below hb).mono (fun k hk e => absurd e (by omega)), fun _ h => .inl h⟩
  · have := join_new h i j (b.getD i []) (a.getD j []) (getD_some hi) (getD_some (by omega)) hin hn1 hn2
    unfold joinB joinA
    rw [if_neg hin, if_neg hin]
    exact this
set_option maxRecDepth 100000 in
set_option maxHeartbeats 4000000 in
theorem small_calls (N : Nat) (hN : N ≤ 255) (A : Option Addr) (c : Nat) (es : List (Nat × Nat)) (w : World) (hA : Edges w A es) (hc : es.length ≤ c) (hl : es.length ≤ 1000) :
    Calls Try.prog 18 #[.agg #[.int .u8 N, .slice A es.length c]] w (SmallPost w (1 + N % 12) es) := by
  have HA := Lib.hid (And.intro hA hc)
  clear hA hc
  obtain ⟨n, hn⟩ : ∃ n, 1 + N % 12 = n := ⟨_, rfl⟩
  rw [hn]
  have hmk := mk_rows n (by omega)
  have hn0 : 0 < n := by omega
  have hn12 : n ≤ 12 := by omega
  have e1 : IntKind.i64.wrap (1 + ((N % 12 : Nat) : Int)) = (n : Int) := by rw [IntKind.wrap_i64]; omega
  go_enter Try.func18, Try.ntmps18
  go_wp2_with fail
  rw [show (1 + (N : Int) % 12) = (n : Int) by omega]
  clear e1 hn
  generalize hX : World.alloc (World.alloc w _) _ = X at *
  have hx0 : X.heap[w.heap.size]? = some (.cells #[.int .u8 N, .slice A es.length c] 24 (0, 0)) := by
    rw [← hX]; exact (Below.heap_alloc (w.alloc _) _ _ (by simp)).trans (heap_alloc_new' w _)
  have hx1 : X.heap[w.heap.size + 1]? = some (.cells #[.slice none 0 0, .slice none 0 0] 28 (0, 0)) := by
    rw [← hX]; have := heap_alloc_new' (w.alloc (.cells #[.int .u8 N, .slice A es.length c] 24)) (.cells #[.slice none 0 0, .slice none 0 0] 28); rwa [World.size_alloc] at this
  have hbx : Below w.heap.size w X := hX ▸ ((Below.refl _ _).alloc (Nat.le_refl _) _).alloc (by simp) _
  have hz : X.heap.size = w.heap.size + 2 := by rw [← hX]; simp
  have HX := Lib.hid (And.intro hx0 (And.intro hx1 (And.intro hbx hz)))
  clear hX hx0 hx1 hbx hz
  refine (new_calls n (by omega) X).mono ?_
  rintro e w1 ⟨gv, rfl, ⟨S, hg⟩, hb1⟩
  obtain ⟨q1, p1, rfl⟩ := hg.form
  rw [List.length_replicate] at hg ⊢
  have hgX := fun g (h : S g) => (hg.lt h).2
  have HG := Lib.hid (And.intro (hg.lower HX.out.2.2.1.size) (And.intro (HX.out.2.2.1.trans (hb1.mono HX.out.2.2.1.size)) (And.intro ((hb1.block _ (lt_blk HX.out.1)).trans HX.out.1) (And.intro ((hb1.block _ (lt_blk HX.out.2.1)).trans HX.out.2.1) hgX))))
  have HZX := Lib.hid (And.intro HX.out.2.2.2 hb1.size)
  clear hg hb1 hgX HX
  have x1 := cell_of_blk _ _ _ _ _ HG.out.2.2.1 1
  have hzz : w.heap.size < w1.heap.size := lt_blk HG.out.2.2.1
  simp at x1
  go_wp2_with fail
  clear x1
  have HS0 : Hid (SG w n es 0 w1.heap.size (.agg #[.slice (some ⟨q1, 0, none⟩) n n, .slice (some ⟨p1, 0, none⟩) n n]) (w1.heap.size + 1) ((w1.alloc (.cells #[.slice (some ⟨q1, 0, none⟩) n n, .slice (some ⟨p1, 0, none⟩) n n] 28)).alloc (nilRows n)) (List.replicate n (.slice none 0 0)) S) := by
    have hb : Below w1.heap.size w1 ((w1.alloc (.cells #[.slice (some ⟨q1, 0, none⟩) n n, .slice (some ⟨p1, 0, none⟩) n n] 28)).alloc (nilRows n)) := ((Below.refl _ _).alloc (Nat.le_refl _) _).alloc (by simp) _
    have z1 := HZX.out
    have hS : ∀ g, S g → g < w1.heap.size := fun g hg => (HG.out.1.lt hg).1
    refine Lib.hid ⟨?_, ?_, fun g hg hs => ?_, below_two HG.out.2.1 hb, (hb.block _ (by omega)).trans HG.out.2.2.2.1, ?_, ⟨fun e => ?_, fun e => ?_⟩, ⟨fun e => ?_, fun e => ?_⟩⟩
    · rw [List.take_zero]; exact HG.out.1.later hb
    · rw [List.take_zero]
      refine Mat.new ?_ (by omega)
      have := heap_alloc_new' (w1.alloc (.cells #[.slice (some ⟨q1, 0, none⟩) n n, .slice (some ⟨p1, 0, none⟩) n n] 28)) (nilRows n)
      rwa [World.size_alloc] at this
    · have := matB_new hg; have := hS g hs; omega
    · exact (Below.heap_alloc (w1.alloc _) _ _ (by simp)).trans (heap_alloc_new' w1 _)
    · have := HG.out.2.2.2.2 _ e; omega
    · have := matB_new e; omega
    · have := hS _ e; omega
    · have := matB_new e; omega
  go_loopw [23] (fun i wr => ∃ j : Nat, i = .int .i64 (j : Int) ∧ Hid (j ≤ es.length ∧ ∃ vs S, SG w n es j w1.heap.size (.agg #[.slice (some ⟨q1, 0, none⟩) n n, .slice (some ⟨p1, 0, none⟩) n n]) (w1.heap.size + 1) wr vs S)) (fun i _ => es.length - (intOf i).toNat)
  case atStart => exact ⟨0, rfl, Lib.hid ⟨Nat.zero_le _, _, S, HS0.out⟩⟩
  case round =>
    clear HS0 HG
    obtain ⟨j, rfl, HI⟩ := hrel
    obtain ⟨hj0, vs, S, hsg⟩ := HI.out
    clear HI
    have HG := Lib.hid hsg
    clear hsg
    generalize hBq : w1.heap.size = B at *
    clear hBq
    by_cases hj : j < es.length
    · obtain ⟨⟨x, y⟩, hxy⟩ : ∃ e, es[j]? = some e := ⟨_, List.getElem?_eq_getElem hj⟩
      obtain ⟨hx, hy, g0, o0, rfl, c0, c1⟩ := (HA.out.1.later HG.out.below) j x y hxy
      have pp1 : ((j : Int) < (es.length : Int)) = True := eq_true (by omega)
      have hn1 : ((n : Int) == 0) = false := beq_eq_false_iff_ne.mpr (by omega)
      obtain ⟨i, hi⟩ : ∃ i, x % n = i := ⟨_, rfl⟩
      obtain ⟨k, hk⟩ : ∃ k, y % n = k := ⟨_, rfl⟩
      have mx := modW hx hi
      have my := modW hy hk
      have HMX := Lib.hid (And.intro mx my)
      have hin : i < n := hi ▸ Nat.mod_lt _ hn0
      have hkn : k < n := hk ▸ Nat.mod_lt _ hn0
      have hrw := graph_rows n hn0 (es.take j)
      have hsB : graphB n (es.take (j + 1)) = joinB (graphB n (es.take j)) i k := by rw [take_snoc' es j (x, y) hxy, graphB_snoc, hi, hk]
      have hsA : graphA n (es.take (j + 1)) = joinA (graphB n (es.take j)) (graphA n (es.take j)) i k := by rw [take_snoc' es j (x, y) hxy, graphA_snoc, hi, hk]
      have hlt : (es.take j).length ≤ 1000 := by rw [List.length_take]; omega
      have HJ := Lib.hid (And.intro hrw (And.intro hsB (And.intro hsA hlt)))
      clear hxy hi hk hrw hsB hsA hlt hx hy mx my
      go_wp2_with fail
      go_quiet (fail)
      rw [HMX.out.1, HMX.out.2]
      clear HMX hn1
      generalize hZ : World.drewN (World.alloc wr _) nq = Z at *
      have hbZ : Below wr.heap.size wr Z := hZ ▸ below_two ((Below.refl _ _).alloc (Nat.le_refl _) _) (below_drewN' _ nq)
      have hgZ := HG.out.later hbZ
      have HZ := Lib.hid hgZ
      clear hZ hbZ hgZ c0 c1 HG
      have hgr := HZ.out.gr
      have hmat := HZ.out.mat
      have hj1 := HJ.out
      generalize graphB n (es.take j) = b at *
      generalize graphA n (es.take j) = a at *
      obtain ⟨hrw, hsB, hsA, hlt⟩ := hj1
      have hb12 : (b.getD i []).length ≤ 1000 ∧ (a.getD k []).length ≤ 1000 := ⟨Nat.le_trans (hrw.few i _ (getD_some (by rw [hrw.lb]; exact hin))).1 hlt, Nat.le_trans (hrw.fewA k _ (getD_some (by rw [hrw.la]; exact hkn))).1 hlt⟩
      have HR := Lib.hid (And.intro hgr (And.intro hmat (And.intro hrw (And.intro hsB (And.intro hsA hb12)))))
      clear hgr hmat hrw hsB hsA hlt HJ hb12
      have x0 := cell_of_blk _ _ _ _ _ HZ.out.b5 0
      have x1 := cell_of_blk _ _ _ _ _ HZ.out.b5 1
      simp [Value.cells] at x0 x1
      go_wp2_with fail
      refine (join_any HR.out.1 i k (by rw [HR.out.2.2.1.lb]; exact hin) (by rw [HR.out.2.2.1.lb]; exact hkn) (by have := HR.out.2.2.2.2.2.1; omega) (by have := HR.out.2.2.2.2.2.2; omega)).mono ?_
      rintro e w3 ⟨rfl, S3, hg3, ho3, hs3⟩
      have hmlt : ∀ g, MatB (B + 1) vs g → g < Z.heap.size := fun g hg => (HR.out.2.1.lt hg).1
      have hm3 : Mat w3 w.heap.size (B + 1) vs b := HR.out.2.1.only ho3 (fun g hg e => HZ.out.apart g hg e)
      have H3 := Lib.hid (And.intro hg3 (And.intro ho3 (And.intro hs3 hm3)))
      obtain ⟨v, l, hv, hl, hr⟩ := hm3.get (i := i) (by rw [HR.out.2.2.1.lb]; exact hin)
      have hl' : l = b.getD i [] := Option.some.inj (hl.symm.trans (getD_some (by rw [HR.out.2.2.1.lb]; exact hin)))
      obtain ⟨A1, m1, c2, rfl⟩ : ∃ A m c, v = .slice A m c := (rowAt_slice hr).elim fun A h => h.elim fun c h => ⟨A, _, c, h.1⟩
      have hc := hm3.cell i
      rw [hv] at hc
      have HL := Lib.hid (And.intro hv (And.intro hl (And.intro hr hl')))
      have i0 : 0 ≤ (i : Int) := by omega
      have i1 : (i : Int) < (n : Int) := by omega
      clear hg3 ho3 hs3 hm3 hv hl hr hl' x0 x1 hmlt
      go_wp2_with fail
      refine (QI.contains (k : Int) (l := ivs l) (by rw [ivs_map]; exact HL.out.2.2.1)).mono ?_
      rintro e w4 ⟨rfl, rfl⟩
      by_cases hmem : k ∈ b.getD i []
      · have hdec : decide ((k : Int) ∈ ivs l) = true := decide_eq_true ((ivs_mem _ _).2 (by rw [HL.out.2.2.2]; exact hmem))
        rw [hdec]
        have HM := Lib.hid hmem
        clear hdec hmem
        go_wp2_with fail
        go_roundw
        case rel =>
          refine ⟨j + 1, by go_num, Lib.hid ⟨by omega, vs, S3, HZ.out.next ?_ H3.out.2.1 H3.out.2.2.1 ?_ (Only.refl _ _) (fun _ h => .inl h)⟩⟩
          · rw [HR.out.2.2.2.1, HR.out.2.2.2.2.1]; exact H3.out.1
          · rw [HR.out.2.2.2.1]; unfold joinB; rw [if_pos HM.out]; exact H3.out.2.2.2
        case measure => simp [intOf]; omega
      · have hdec : decide ((k : Int) ∈ ivs l) = false := decide_eq_false (fun h => hmem (by rw [← HL.out.2.2.2]; exact (ivs_mem _ _).1 h))
        rw [hdec]
        have HM := Lib.hid hmem
        obtain ⟨v', w5, hr, k1, k2, k3⟩ := row_append (w := w3.alloc (.cells #[.int .i64 (k : Int)] 3)) (base := w.heap.size) (v := .slice A1 m1 c2) (l := l) (HL.out.2.2.1.only (Only.alloc (fun _ => False) _ _) (fun _ _ e => e)) ⟨w3.heap.size, 0, none⟩ k (by
          have := cell_of_blk (w3.alloc (.cells #[.int .i64 (k : Int)] 3)) w3.heap.size _ _ _ (heap_alloc_new' w3 _) 0
          exact this) (by have h1 := HZ.out.below.size; have h2 := H3.out.2.1.size; simp; omega) (by rw [HL.out.2.2.2]; have := HR.out.2.2.2.2.2.1; omega)
        obtain ⟨A2, m2, c3, rfl⟩ : ∃ A m c, v' = .slice A m c := (rowAt_slice k1).elim fun A h => h.elim fun c h => ⟨A, _, c, h.1⟩
        have ho : Only (fun g => (Value.slice A1 m1 c2).ownBlock = some g) w3 w5 := (Only.alloc _ _ _).trans k2 (fun _ _ e => e)
        have hvq : (Value.slice A1 m1 c2).ownBlock ≠ some (B + 1) := HL.out.2.2.1.ne_blk H3.out.2.2.2.blk (by decide)
        have hqlt := lt_blk H3.out.2.2.2.blk
        have hc5 := (ho.cell (p := ⟨B + 1, i, none⟩) hqlt hvq).trans hc
        have hf5 := (ho.frozen (p := ⟨B + 1, i, none⟩) hqlt hvq).trans (H3.out.2.2.2.frozen i)
        have hset := H3.out.2.2.2.set (w1 := w5) HL.out.1 HL.out.2.1 ho k1 (k3.imp id (fun ⟨g, h1, h2⟩ => ⟨g, h1, by simp at h2; omega⟩))
        have HS := Lib.hid hset
        have HRN := Lib.hid hr
        clear hdec hmem hr k1 k2 k3 ho hvq hqlt hset
        go_wp2_with (first | (at_builtin; refine Lib.wpList_append_run _ rfl _ _ _ _ rfl _ _ rfl rfl _ _ HRN.out ?_) | fail)
        go_roundw
        case rel =>
          refine ⟨j + 1, by go_num, Lib.hid ⟨by omega, _, S3, HZ.out.next ?_ H3.out.2.1 H3.out.2.2.1 ?_ HS.out.2.1 HS.out.2.2⟩⟩
          · rw [HR.out.2.2.2.1, HR.out.2.2.2.2.1]; exact H3.out.1
          · rw [HR.out.2.2.2.1]; unfold joinB; rw [if_neg HM.out, ← HL.out.2.2.2]; exact HS.out.1
        case measure => simp [intOf]; omega
    · obtain rfl : j = es.length := by omega
      have pp1 : ((es.length : Int) < (es.length : Int)) = False := eq_false (by omega)
      have x0 := cell_of_blk _ _ _ _ _ HG.out.b5 0
      have x1 := cell_of_blk _ _ _ _ _ HG.out.b5 1
      have y0 := cell_of_blk _ _ _ _ _ HG.out.b1 0
      have y1 := cell_of_blk _ _ _ _ _ HG.out.b1 1
      have f0 : ∀ i, wr.frozen? ⟨w.heap.size + 1, i, none⟩ = false := fun i => by have := HG.out.b1; simp [World.frozen?, this]
      have f1 := f0 0
      have f2 := f0 1
      simp [Value.cells] at x0 x1 y0 y1
      clear f0
      go_wp2_with fail
      generalize hV : World.setCell (World.setCell wr _ _) _ _ = V
      have ho : Only (fun g => g = w.heap.size + 1) wr V := by rw [← hV]; exact (Only.setCell wr ⟨w.heap.size + 1, 0, none⟩ _).trans (Only.setCell _ ⟨w.heap.size + 1, 1, none⟩ _) (fun _ _ e => e)
      have hlt := lt_blk HG.out.b1
      have v0 : V.cell? ⟨w.heap.size + 1, 0, none⟩ = some (.slice (some ⟨q1, 0, none⟩) n n) := by
        have hb := HG.out.b1
        rw [← hV]; simp [World.setCell, World.cell?, Array.getElem?_modify, hb]
      have v1 : V.cell? ⟨w.heap.size + 1, 1, none⟩ = some (.slice (some ⟨p1, 0, none⟩) n n) := by
        have hb := HG.out.b1
        rw [← hV]; simp [World.setCell, World.cell?, Array.getElem?_modify, hb]
      have hfin : SmallPost w n es (.returned (.tuple #[.agg #[.slice (some ⟨q1, 0, none⟩) n n, .slice (some ⟨p1, 0, none⟩) n n], .slice (some ⟨B + 1, 0, none⟩) n n])) V := by
        have h1 := HG.out.gr
        have h2 := HG.out.mat
        rw [List.take_length] at h1 h2
        exact ⟨_, _, vs, S, rfl, h1.only ho (fun g hg e => HG.out.n1.1 (by rw [← show g = w.heap.size + 1 from e]; exact hg)), h2.only ho (fun g hg e => HG.out.n1.2 (by rw [← show g = w.heap.size + 1 from e]; exact hg)), HG.out.apart, HG.out.below.trans (ho.below HG.out.below.size (fun k hk e => by have e : k = w.heap.size + 1 := e; omega))⟩
      have HF := Lib.hid hfin
      clear hfin ho hV x0 x1 y0 y1 f1 f2 HG
      exact bodyPost_ret (v := .tuple #[.agg #[.slice (some ⟨q1, 0, none⟩) n n, .slice (some ⟨p1, 0, none⟩) n n], .slice (some ⟨B + 1, 0, none⟩) n n]) (by simp [results, Try.results18, go_sem, v0, v1]) rfl HF.out
end Go.Proofs.Ytnkbbjeepdjamaa
