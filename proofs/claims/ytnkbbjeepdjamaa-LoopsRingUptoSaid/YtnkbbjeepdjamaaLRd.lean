/- The loops of a graph as the laws read them. No condition. -/
import Derived.Test.YtnkbbjeepdjamaaLAw
import Derived.Test.YtnkbbjeepdjamaaLRef
namespace Go.Proofs.Ytnkbbjeepdjamaa
open Go.RowKit
/-- Of the first places those that have a way back. -/
noncomputable def hbs (g : Nat → List Nat) (k : Nat) : List Nat := (List.range k).filter (fun y => @decide (HB g y) (Classical.propDecidable _))
theorem mem_hbs {g : Nat → List Nat} {k y : Nat} : y ∈ hbs g k ↔ y < k ∧ HB g y := by
  unfold hbs
  simp
theorem hbs_yes {g : Nat → List Nat} {k : Nat} (h : HB g k) : (hbs g (k + 1)).length = (hbs g k).length + 1 := by
  unfold hbs
  rw [List.range_succ, List.filter_append, List.length_append]
  simp [h]
theorem hbs_no {g : Nat → List Nat} {k : Nat} (h : ¬ HB g k) : (hbs g (k + 1)).length = (hbs g k).length := by
  unfold hbs
  rw [List.range_succ, List.filter_append, List.length_append]
  simp [h]
theorem hbs_le (g : Nat → List Nat) (k : Nat) : (hbs g k).length ≤ k := by
  unfold hbs
  exact Nat.le_trans (List.length_filter_le _ _) (by simp)
theorem nodup_nat : ∀ (l m : List Nat), l.Nodup → (∀ a ∈ l, a ∈ m) → l.length ≤ m.length
  | [], _, _, _ => Nat.zero_le _
  | a :: t, m, h, hs => by
    obtain ⟨h1, h2⟩ := List.nodup_cons.1 h
    have ha := hs a List.mem_cons_self
    have := nodup_nat t (m.erase a) h2 (fun b hb => (List.mem_erase_of_ne (fun e => h1 (by rw [← e]; exact hb))).2 (hs b (List.mem_cons_of_mem _ hb)))
    rw [List.length_erase_of_mem ha] at this
    have := List.length_pos_of_mem ha
    simp
    omega
theorem LRes.head_eq {B n : Nat} {g : Nat → List Nat} {v : Value} {L : List LEl} {W : World} (h : LRes B g n v L W) {e : LEl} (he : e ∈ L) : ∃ (xs : List Int) (y : Nat), IsSetI W B e.v xs ∧ e.k = xs.length ∧ xs.length ≤ n ∧ e.h = (y : Int) ∧ (∀ x : Int, x ∈ xs ↔ ∃ z : Nat, x = (z : Int) ∧ LB g y z) ∧ y < n ∧ HB g y := by
  obtain ⟨xs, y, h1, h2, h3, h4, h5⟩ := h.sets e he
  have := (h.heads y).1 ⟨e, he, h4⟩
  exact ⟨xs, y, h1, h2, h3, h4, h5, this.1, this.2⟩
/-- No two loops have the same head. -/
theorem LRes.inj {B n : Nat} {g : Nat → List Nat} {v : Value} {L : List LEl} {W : World} (h : LRes B g n v L W) : (L.map fun e => e.h.toNat).Nodup := by
  rw [List.nodup_iff_pairwise_ne, List.pairwise_map]
  refine List.Pairwise.imp_of_mem ?_ h.asc
  intro a b ha hb hab e
  obtain ⟨xs, y, h1, h2, _, h4, h5, _⟩ := h.head_eq ha
  obtain ⟨ys, z, k1, k2, _, k4, k5, _⟩ := h.head_eq hb
  rw [h4, k4] at e
  have e : y = z := by simpa using e
  subst e
  have : xs = ys := srt_ext ordI _ _ h1.srt k1.srt (fun x => by rw [h5, k5])
  subst this
  rcases hab with e | ⟨_, e⟩
  · omega
  · omega
theorem LRes.many {B n : Nat} {g : Nat → List Nat} {v : Value} {L : List LEl} {W : World} (h : LRes B g n v L W) : L.length = (hbs g n).length := by
  have h1 : (L.map fun e => e.h.toNat).length ≤ (hbs g n).length := nodup_nat _ _ h.inj (fun a ha => by
    obtain ⟨e, he, e2⟩ := List.mem_map.1 ha
    obtain ⟨xs, y, _, _, _, h4, _, h6⟩ := h.head_eq he
    rw [h4] at e2
    have : y = a := by simpa using e2
    subst this
    exact mem_hbs.2 h6)
  have h2 : (hbs g n).length ≤ (L.map fun e => e.h.toNat).length := nodup_nat _ _ (by unfold hbs; exact List.Pairwise.sublist List.filter_sublist List.nodup_range) (fun a ha => by
    obtain ⟨e, he, e2⟩ := (h.heads a).2 (mem_hbs.1 ha)
    exact List.mem_map.2 ⟨e, he, by rw [e2]; simp⟩)
  simp at h1 h2
  omega
/-- The loops' row as it is read. -/
structure LR (B n : Nat) (g : Nat → List Nat) (A : Option Addr) (L : List LEl) (W : World) : Prop where
  len : L.length ≤ n
  at_ : ∀ (i : Nat) (e : LEl), L[i]? = some e → ∃ (q : Nat) (xs : List Int) (y : Nat), A = some ⟨q, 0, none⟩ ∧ W.cell? ⟨q, i * 2, none⟩ = some (.int .i64 (y : Int)) ∧ W.cell? ⟨q, i * 2 + 1, none⟩ = some e.v ∧ IsSetI W B e.v xs ∧ e.k = xs.length ∧ xs.length ≤ n ∧ e.h = (y : Int) ∧ (∀ x : Int, x ∈ xs ↔ ∃ z : Nat, x = (z : Int) ∧ LB g y z) ∧ y < n ∧ HB g y
theorem LRes.lr {B n : Nat} {g : Nat → List Nat} {v : Value} {L : List LEl} {W : World} (h : LRes B g n v L W) : ∃ A c, v = .slice A L.length c ∧ LR B n g A L W := by
  have hl : L.length ≤ n := by rw [h.many]; exact hbs_le g n
  rcases h.row with ⟨rfl, rfl⟩ | ⟨q, c, rfl, hr, _, _⟩
  · exact ⟨none, 0, rfl, hl, fun i e hi => by simp at hi⟩
  · refine ⟨some ⟨q, 0, none⟩, c, rfl, hl, fun i e hi => ?_⟩
    obtain ⟨xs, y, k⟩ := h.head_eq (List.mem_of_getElem? hi)
    obtain ⟨h1, h2⟩ := hr.at_ i e hi
    rw [Nat.mul_comm] at h1 h2
    refine ⟨q, xs, y, rfl, ?_, h2, k⟩
    rw [h1, k.2.2.2.1]
theorem LR.later {B n : Nat} {g : Nat → List Nat} {A : Option Addr} {L : List LEl} {W W' : World} (h : LR B n g A L W) (hb : Below W.heap.size W W') : LR B n g A L W' := by
  refine ⟨h.len, fun i e hi => ?_⟩
  obtain ⟨q, xs, y, h1, h2, h3, h4, h5⟩ := h.at_ i e hi
  exact ⟨q, xs, y, h1, (hb.cell (World.block_lt_of_cell? W _ h2)).trans h2, (hb.cell (World.block_lt_of_cell? W _ h3)).trans h3, h4.only (Only.of_below hb) (fun g hg e => by have := (isset_lt h4 hg).2; omega), h5⟩
end Go.Proofs.Ytnkbbjeepdjamaa
