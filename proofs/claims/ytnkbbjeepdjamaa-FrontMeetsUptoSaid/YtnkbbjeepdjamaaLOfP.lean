/- loops.Of: what is held between two places that are looked at. No condition. -/
import Derived.Test.YtnkbbjeepdjamaaLRow
import Derived.Test.YtnkbbjeepdjamaaLBod
import Derived.Test.YtnkbbjeepdjamaaLA
import Derived.Test.YtnkbbjeepdjamaaMarks
namespace Go.Proofs.Ytnkbbjeepdjamaa
open Go.RowKit
/-- A place has a way back. -/
def HB (g : Nat → List Nat) (y : Nat) : Prop := ∃ u, y ∈ g u ∧ LT.Ov g y u
/-- A loop that is told: its row of places. -/
def LSet (w : World) (base : Nat) (g : Nat → List Nat) (n : Nat) (e : LEl) : Prop := ∃ (xs : List Int) (y : Nat), IsSetI w base e.v xs ∧ e.k = xs.length ∧ xs.length ≤ n ∧ e.h = (y : Int) ∧ ∀ x : Int, x ∈ xs ↔ ∃ z : Nat, x = (z : Int) ∧ LB g y z
structure LSt (X : World) (g : Nat → List Nat) (n h : Nat) (vo : Value) (L : List LEl) (ds : List Nat) (W : World) : Prop where
  below : Below X.heap.size X W
  row : OwnL W X.heap.size vo L
  sets : ∀ e ∈ L, LSet W X.heap.size g n e
  heads : ∀ y : Nat, (∃ e ∈ L, e.h = (y : Int)) ↔ y < h ∧ HB g y
  asc : L.Pairwise (fun a b => a.h < b.h)
  mks : Marks X.heap.size ds W
  lh : L.length ≤ h
  nn : L = [] → vo = .slice none 0 0
section
variable {X W W' : World} {g : Nat → List Nat} {n h : Nat} {vo : Value} {L : List LEl} {ds : List Nat}
theorem LSet.only {w w' : World} {base : Nat} {e : LEl} {T : Nat → Prop} (H : LSet w base g n e) (ho : Only T w w') (hn : ∀ k, e.v.ownBlock = some k → ¬ T k) : LSet w' base g n e := by
  obtain ⟨xs, y, h1, h2⟩ := H
  exact ⟨xs, y, h1.only ho hn, h2⟩
theorem LSet.lt {w : World} {base : Nat} {e : LEl} (H : LSet w base g n e) {k : Nat} (hk : e.v.ownBlock = some k) : base ≤ k ∧ k < w.heap.size := by
  obtain ⟨xs, y, h1, _⟩ := H
  exact isset_lt h1 hk
theorem LSt.start : LSt X g n 0 (.slice none 0 0) [] [] X :=
  ⟨Below.refl _ _, OwnL.nil _ _, (fun e he => by cases he), (fun y => ⟨(fun ⟨e, he, _⟩ => by cases he), (fun ⟨hy, _⟩ => by omega)⟩), List.Pairwise.nil, Marks.nil _ _, Nat.le_refl _, fun _ => rfl⟩
theorem LSt.later (H : LSt X g n h vo L ds W) (hb : Below W.heap.size W W') : LSt X g n h vo L ds W' :=
  ⟨H.below.trans (hb.mono H.below.size), H.row.later hb, fun e he => (H.sets e he).only (Only.of_below hb) (fun k hk e' => by have := ((H.sets e he).lt hk).2; omega), H.heads, H.asc, H.mks.only (Only.of_below hb) (fun D hD e' => by have := H.mks.lt hD; omega), H.lh, H.nn⟩
/-- One more mark. -/
theorem LSt.mark (H : LSt X g n h vo L ds W) {D : Nat} (hD : W.heap[D]? = some (.deferred (some []))) (hlo : X.heap.size ≤ D) (hn : D ∉ ds) : LSt X g n h vo L (D :: ds) W :=
  ⟨H.below, H.row, H.sets, H.heads, H.asc, H.mks.cons hlo hD hn, H.lh, H.nn⟩
/-- No way back. -/
theorem LSt.skip (H : LSt X g n h vo L ds W) (hb : ¬ HB g h) : LSt X g n (h + 1) vo L ds W :=
  ⟨H.below, H.row, H.sets, fun y => (H.heads y).trans ⟨fun ⟨a, b⟩ => ⟨by omega, b⟩, fun ⟨a, b⟩ => ⟨by
    by_cases e : y = h
    · subst e; exact absurd b hb
    · omega, b⟩⟩, H.asc, H.mks, (by have := H.lh; omega), H.nn⟩
/-- One loop more. -/
theorem LSt.push (H : LSt X g n h vo L ds W) (hb : HB g h) {e : LEl} (he : e.h = (h : Int)) (hs : LSet W X.heap.size g n e) {vo' : Value} (hr : OwnL W' X.heap.size vo' (L ++ [e])) (ho : Only (fun k => vo.ownBlock = some k) W W') : LSt X g n (h + 1) vo' (L ++ [e]) ds W' := by
  refine ⟨H.below.trans (ho.below H.below.size (fun k hk e' => by have := (H.row.blk e').1; omega)), hr, fun a ha => ?_, fun y => ?_, ?_, H.mks.only ho (fun D hD e' => ?_), by simp; exact H.lh, fun e => by simp at e⟩
  · have hsa : LSet W X.heap.size g n a := by
      rcases List.mem_append.1 ha with ha | ha
      · exact H.sets a ha
      · rw [List.mem_singleton.1 ha]; exact hs
    refine hsa.only ho (fun k hk e' => ?_)
    obtain ⟨xs, y, h1, _⟩ := hsa
    exact H.row.ne_set h1 hk e'
  · constructor
    · rintro ⟨a, ha, e2⟩
      rcases List.mem_append.1 ha with ha | ha
      · obtain ⟨h1, h2⟩ := (H.heads y).1 ⟨a, ha, e2⟩
        exact ⟨by omega, h2⟩
      · rw [List.mem_singleton.1 ha, he] at e2
        have := Int.natCast_inj.1 e2
        subst this
        exact ⟨by omega, hb⟩
    · rintro ⟨h1, h2⟩
      by_cases e2 : y = h
      · subst e2; exact ⟨e, by simp, he⟩
      · obtain ⟨a, ha, e3⟩ := (H.heads y).2 ⟨by omega, h2⟩
        exact ⟨a, by simp [ha], e3⟩
  · rw [List.pairwise_append]
    refine ⟨H.asc, List.pairwise_singleton _ _, fun a ha b hb' => ?_⟩
    rw [List.mem_singleton.1 hb', he]
    obtain ⟨xs, y, _, _, _, hy, _⟩ := H.sets a ha
    have := ((H.heads y).1 ⟨a, ha, hy⟩).1
    omega
  · obtain ⟨_, _, cur, hc⟩ := H.row.blk e'
    exact H.mks.ne_cells hc hD
end
theorem LRow.only {S : Nat → Prop} {w w' : World} {g : Nat} {L : List LEl} (h : LRow w g L) (hg : g < w.heap.size) (ho : Only S w w') (hn : ¬ S g) : LRow w' g L :=
  ⟨fun i e he => ⟨(ho.cell (p := ⟨g, 2 * i, none⟩) hg hn).trans (h.at_ i e he).1, (ho.cell (p := ⟨g, 2 * i + 1, none⟩) hg hn).trans (h.at_ i e he).2⟩, h.few, fun k => (ho.frozen (p := ⟨g, k, none⟩) hg hn).trans (h.fz k)⟩
/-- What loops.Of answers: the loops' row. -/
structure LRes (B : Nat) (gr : Nat → List Nat) (n : Nat) (v : Value) (L : List LEl) (W : World) : Prop where
  row : (L = [] ∧ v = .slice none 0 0) ∨ ∃ g c, v = .slice (some ⟨g, 0, none⟩) L.length c ∧ LRow W g L ∧ B ≤ g ∧ g < W.heap.size ∧ L.length ≤ c
  sets : ∀ e ∈ L, LSet W B gr n e
  heads : ∀ y : Nat, (∃ e ∈ L, e.h = (y : Int)) ↔ y < n ∧ HB gr y
  asc : L.Pairwise RLo
theorem LRes.later {B n : Nat} {gr : Nat → List Nat} {v : Value} {L : List LEl} {W W' : World} (h : LRes B gr n v L W) (hb : Below W.heap.size W W') : LRes B gr n v L W' := by
  refine ⟨h.row.imp id (fun ⟨g, c, e, hr, h1, h2, h3⟩ => ⟨g, c, e, hr.later h2 hb, h1, Nat.lt_of_lt_of_le h2 hb.size, h3⟩), fun e he => (h.sets e he).only (Only.of_below hb) (fun k hk e' => by have := ((h.sets e he).lt hk).2; omega), h.heads, h.asc⟩
theorem nodup_heads {L : List LEl} (h : L.Pairwise fun a b => a.h < b.h) (hn : ∀ e ∈ L, ∃ y : Nat, e.h = (y : Int)) : (L.map fun e => e.h.toNat).Nodup := by
  rw [List.nodup_iff_pairwise_ne, List.pairwise_map]
  refine List.Pairwise.imp_of_mem ?_ h
  intro a b ha hb hab e
  obtain ⟨y, hy⟩ := hn a ha
  obtain ⟨z, hz⟩ := hn b hb
  rw [hy, hz] at e
  simp at e
  omega
/-- The end, where none is told. -/
theorem LSt.empty {X W W' : World} {gr : Nat → List Nat} {n B : Nat} {vo : Value} {ds : List Nat} (H : LSt X gr n n vo [] ds W) : LRes B gr n vo [] W' :=
  ⟨.inl ⟨rfl, H.nn rfl⟩, (fun e he => by cases he), H.heads, List.Pairwise.nil⟩
/-- The end: sorted, the marks gone. -/
theorem LSt.fin {X W W1 W' : World} {gr : Nat → List Nat} {n B g c : Nat} {L L' : List LEl} {ds : List Nat} (hB : B ≤ X.heap.size) (H : LSt X gr n n (.slice (some ⟨g, 0, none⟩) L.length c) L ds W) (hr : LRow W1 g L') (hp : L'.Perm L) (hs : L'.Pairwise RLo) (ho : Only (fun k => k = g) W W1) (ho2 : Only (fun k => k ∈ ds) W1 W') :
    LRes B gr n (.slice (some ⟨g, 0, none⟩) L.length c) L' W' := by
  obtain ⟨hgb, hgl, cur, hgc⟩ := H.row.blk (g := g) rfl
  have hcap : L'.length ≤ c := by
    obtain ⟨A', c', e, hc'⟩ := H.row.slice
    injection e with _ _ e
    rw [hp.length_eq, e]; exact hc'
  have hnd := H.mks.ne_cells hgc
  have hg1 : g < W1.heap.size := Nat.lt_of_lt_of_le hgl ho.size
  refine ⟨.inr ⟨g, c, by rw [hp.length_eq], hr.only hg1 ho2 hnd, by omega, Nat.lt_of_lt_of_le hg1 ho2.size, hcap⟩, fun e he => ?_, fun y => ⟨fun ⟨e, he, h⟩ => (H.heads y).1 ⟨e, hp.mem_iff.1 he, h⟩, fun h => ?_⟩, hs⟩
  · have hse := H.sets e (hp.mem_iff.1 he)
    have h1 : LSet W1 X.heap.size gr n e := hse.only ho (fun k hk e' => by
      obtain ⟨xs, y, hx, _⟩ := hse
      subst e'
      exact H.row.ne_set hx hk rfl)
    have h2 : LSet W' X.heap.size gr n e := h1.only ho2 (fun k hk e' => by
      obtain ⟨xs, y, hx, _⟩ := h1
      have hm := (H.mks.only ho (fun D hD e2 => hnd (e2 ▸ hD))).at_ k e'
      rcases own_forms hx.own with ⟨h, _⟩ | ⟨g', cap, cur', h, _, hh, _⟩
      · rw [h] at hk; cases hk
      · rw [h] at hk
        simp only [Value.ownBlock, Option.some.injEq] at hk
        rw [hk, hm.2] at hh; cases hh)
    obtain ⟨xs, y, hx, r⟩ := h2
    exact ⟨xs, y, ⟨own_base hx.own hB, hx.srt⟩, r⟩
  · obtain ⟨e, he, h3⟩ := (H.heads y).2 h
    exact ⟨e, hp.mem_iff.2 he, h3⟩
theorem RowAt.same {w w' : World} {base : Nat} {t : TypeId} {v : Value} {xs : List Value} (h : RowAt w base t v xs) (hk : ∀ g, v.ownBlock = some g → w'.heap[g]? = w.heap[g]?) : RowAt w' base t v xs := by
  rcases h with ⟨h1, h2⟩ | ⟨g, o, cap, cur, h1, h2, h3, h4⟩
  · exact .inl ⟨h1, h2⟩
  · refine .inr ⟨g, o, cap, cur, h1, h2, ?_, h4⟩
    subst h1
    exact (hk g rfl).trans h3
end Go.Proofs.Ytnkbbjeepdjamaa
