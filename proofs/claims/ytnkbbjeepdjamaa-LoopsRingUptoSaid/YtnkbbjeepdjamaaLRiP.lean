/- A ring behind a first place: one loop, of all of the ring; a row: none. Plain. No condition. -/
import Derived.Test.YtnkbbjeepdjamaaLRd
import Derived.Test.YtnkbbjeepdjamaaLNestP
namespace Go.Proofs.Ytnkbbjeepdjamaa
open Go.RowKit
theorem nb_join {b : List (List Nat)} {i j u v : Nat} (hi : i < b.length) : v ∈ nb (joinB b i j) u ↔ v ∈ nb b u ∨ (u = i ∧ v = j) := by
  unfold nb joinB
  by_cases h : j ∈ b.getD i []
  · rw [if_pos h]
    exact ⟨.inl, fun e => e.elim id (fun ⟨e1, e2⟩ => by rw [e1, e2]; exact h)⟩
  · rw [if_neg h, getD_set_row hi]
    by_cases e : u = i
    · subst e
      rw [if_pos rfl, List.mem_append]
      simp
    · rw [if_neg e]
      exact ⟨.inl, fun k => k.elim id (fun ⟨e1, _⟩ => absurd e1 e)⟩
theorem nb_graphB (n : Nat) (hn : 0 < n) (es : List (Nat × Nat)) (u v : Nat) : v ∈ nb (graphB n es) u ↔ ∃ p ∈ es, p.1 % n = u ∧ p.2 % n = v := by
  suffices h : ∀ k : Nat, v ∈ nb (graphB n (es.take k)) u ↔ ∃ p ∈ es.take k, p.1 % n = u ∧ p.2 % n = v by
    have := h es.length; rwa [List.take_length] at this
  intro k
  induction k with
  | zero =>
    have e : (List.replicate n ([] : List Nat)).getD u [] = [] := by
      rw [List.getD_eq_getElem?_getD, List.getElem?_replicate]; split <;> rfl
    show v ∈ (List.replicate n ([] : List Nat)).getD u [] ↔ _
    rw [e]; simp
  | succ k ih =>
    by_cases hk : k < es.length
    · rw [take_snoc' es k _ (List.getElem?_eq_getElem hk), graphB_snoc, nb_join (by rw [(graph_rows n hn _).lb]; exact Nat.mod_lt _ hn), ih]
      constructor
      · rintro (⟨p, h1, h2⟩ | ⟨h1, h2⟩)
        · exact ⟨p, List.mem_append_left _ h1, h2⟩
        · exact ⟨_, List.mem_append_right _ (List.mem_singleton.2 rfl), h1.symm, h2.symm⟩
      · rintro ⟨p, h1, h2, h3⟩
        rcases List.mem_append.1 h1 with h1 | h1
        · exact .inl ⟨p, h1, h2, h3⟩
        · rw [List.mem_singleton.1 h1] at h2 h3
          exact .inr ⟨h2.symm, h3.symm⟩
    · rw [List.take_of_length_le (by omega)]
      rwa [List.take_of_length_le (by omega)] at ih
def ringE (k s i : Nat) : List (Nat × Nat) := (0, s) :: (List.range i).map (fun j => (1 + j, 1 + (j + 1) % k))
def rowE (i : Nat) : List (Nat × Nat) := (0, 1) :: (List.range i).map (fun j => (1 + j, 2 + j))
theorem ringE_snoc (k s i : Nat) : ringE k s (i + 1) = ringE k s i ++ [(1 + i, 1 + (i + 1) % k)] := by simp [ringE, List.range_succ]
theorem rowE_snoc (i : Nat) : rowE (i + 1) = rowE i ++ [(1 + i, 2 + i)] := by simp [rowE, List.range_succ]
section
variable {k s : Nat}
theorem nb_ring (hk : 0 < k) (hs : 1 ≤ s ∧ s ≤ k) (u v : Nat) : v ∈ nb (graphB (k + 1) (ringE k s k)) u ↔ (u = 0 ∧ v = s) ∨ (1 ≤ u ∧ u ≤ k ∧ v = 1 + u % k) := by
  rw [nb_graphB (k + 1) (by omega)]
  have hm : ∀ x, x ≤ k → x % (k + 1) = x := fun x h => Nat.mod_eq_of_lt (by omega)
  constructor
  · rintro ⟨p, hp, h1, h2⟩
    rcases List.mem_cons.1 hp with rfl | hp
    · rw [hm _ hs.2] at h2
      simp at h1
      exact .inl ⟨h1.symm, h2.symm⟩
    · obtain ⟨j, hj, rfl⟩ := List.mem_map.1 hp
      have hj := List.mem_range.1 hj
      have hl := Nat.mod_lt (j + 1) hk
      simp only at h1 h2
      rw [hm _ (by omega)] at h1 h2
      refine .inr ⟨by omega, by omega, ?_⟩
      rw [← h2, ← h1, Nat.add_comm 1 j]
  · rintro (⟨rfl, rfl⟩ | ⟨h1, h2, rfl⟩)
    · exact ⟨(0, v), List.mem_cons_self, by simp, hm _ hs.2⟩
    · have hl := Nat.mod_lt u hk
      refine ⟨(1 + (u - 1), 1 + (u - 1 + 1) % k), List.mem_cons_of_mem _ (List.mem_map.2 ⟨u - 1, List.mem_range.2 (by omega), rfl⟩), ?_, ?_⟩
      · show (1 + (u - 1)) % (k + 1) = u
        rw [hm _ (by omega)]; omega
      · show (1 + (u - 1 + 1) % k) % (k + 1) = 1 + u % k
        rw [show u - 1 + 1 = u by omega, hm _ (by omega)]
/-- The ring's places, from the one that is come to on. -/
def rnode (k s j : Nat) : Nat := 1 + (s - 1 + j) % k
theorem rnode_zero (hs : 1 ≤ s ∧ s ≤ k) : rnode k s 0 = s := by
  unfold rnode
  rw [Nat.add_zero, Nat.mod_eq_of_lt (by omega)]; omega
theorem rnode_full (hs : 1 ≤ s ∧ s ≤ k) : rnode k s k = s := by
  unfold rnode
  rw [Nat.add_mod_right, Nat.mod_eq_of_lt (by omega)]; omega
theorem rnode_in (hk : 0 < k) (j : Nat) : 1 ≤ rnode k s j ∧ rnode k s j ≤ k := by
  unfold rnode
  have := Nat.mod_lt (s - 1 + j) hk
  omega
theorem rnode_succ (j : Nat) : rnode k s (j + 1) = 1 + rnode k s j % k := by
  unfold rnode
  rw [Nat.add_mod_mod, ← Nat.add_assoc, Nat.add_comm (s - 1 + j) 1]
theorem rnode_all (hs : 1 ≤ s ∧ s ≤ k) {v : Nat} (hv : 1 ≤ v ∧ v ≤ k) : ∃ j, rnode k s j = v := by
  by_cases e : s ≤ v
  · refine ⟨v - s, ?_⟩
    unfold rnode
    rw [show s - 1 + (v - s) = v - 1 by omega, Nat.mod_eq_of_lt (by omega)]; omega
  · refine ⟨v + k - s, ?_⟩
    unfold rnode
    rw [show s - 1 + (v + k - s) = (v - 1) + k by omega, Nat.add_mod_right, Nat.mod_eq_of_lt (by omega)]; omega
theorem least_of {p : Nat → Prop} : ∀ t, p t → ∃ t', p t' ∧ ∀ j, j < t' → ¬ p j := by
  intro t
  induction t using Nat.strongRecOn with
  | _ t ih =>
    intro h
    by_cases e : ∃ j, j < t ∧ p j
    · obtain ⟨j, h1, h2⟩ := e
      exact ih j h1 h2
    · exact ⟨t, h, fun j hj hp => e ⟨j, hj, hp⟩⟩
variable {g : Nat → List Nat}
/-- What a ring is. -/
def RingG (g : Nat → List Nat) (k s : Nat) : Prop := ∀ u v, v ∈ g u ↔ (u = 0 ∧ v = s) ∨ (1 ≤ u ∧ u ≤ k ∧ v = 1 + u % k)
theorem RingG.next (h : RingG g k s) (hk : 0 < k) (j : Nat) : rnode k s (j + 1) ∈ g (rnode k s j) :=
  (h _ _).2 (.inr ⟨(rnode_in hk j).1, (rnode_in hk j).2, rnode_succ j⟩)
theorem RingG.way (h : RingG g k s) (hk : 0 < k) (hs : 1 ≤ s ∧ s ≤ k) : ∀ j, Way g 0 (rnode k s j)
  | 0 => (Way.refl 0).step ((h _ _).2 (.inl ⟨rfl, rnode_zero hs⟩))
  | j + 1 => (RingG.way h hk hs j).step (h.next hk j)
theorem RingG.wayO (h : RingG g k s) {x : Nat} (hw : WayO g (s : Int) x) : x = 0 := by
  induction hw with
  | zero _ => rfl
  | step _ hc hne ih =>
    subst ih
    rcases (h _ _).1 hc with ⟨_, e⟩ | ⟨e, _⟩
    · exact absurd (by rw [e]) hne
    · omega
theorem RingG.ov (h : RingG g k s) (hk : 0 < k) (hs : 1 ≤ s ∧ s ≤ k) (j : Nat) : LT.Ov g s (rnode k s j) :=
  ⟨by have := h.way hk hs 0; rwa [rnode_zero hs] at this, h.way hk hs j, fun hw => by have := h.wayO hw; have := (rnode_in (s := s) hk j).1; omega⟩
theorem RingG.hb (h : RingG g k s) (hk : 0 < k) (hs : 1 ≤ s ∧ s ≤ k) (y : Nat) : HB g y ↔ y = s := by
  constructor
  · rintro ⟨u, hu, ho⟩
    rcases (h _ _).1 hu with ⟨_, e⟩ | ⟨h1, h2, e⟩
    · exact e
    · apply Classical.byContradiction
      intro hne
      have hyk : 1 ≤ y ∧ y ≤ k := by have := Nat.mod_lt u hk; omega
      obtain ⟨t0, ht0⟩ := rnode_all hs hyk
      obtain ⟨t, ht, hmin⟩ := least_of (p := fun t => rnode k s t = y) t0 ht0
      cases t with
      | zero => rw [rnode_zero hs] at ht; exact hne ht.symm
      | succ t =>
        have hwo : ∀ j, j ≤ t → WayO g (y : Int) (rnode k s j) := fun j => by
          induction j with
          | zero =>
            intro _
            exact (WayO.zero (by omega)).step ((h _ _).2 (.inl ⟨rfl, rnode_zero hs⟩)) (fun e => hmin 0 (by omega) (Int.natCast_inj.1 e))
          | succ j ih =>
            intro hj
            exact (ih (by omega)).step (h.next hk j) (fun e => hmin (j + 1) (by omega) (Int.natCast_inj.1 e))
        have hut : u = rnode k s t := by
          rw [rnode_succ] at ht
          have h3 : rnode k s t % k = u % k := by omega
          have h4 := rnode_in (s := s) hk t
          by_cases a : u = k
          · by_cases b : rnode k s t = k
            · omega
            · rw [a, Nat.mod_self, Nat.mod_eq_of_lt (by omega)] at h3; omega
          · by_cases b : rnode k s t = k
            · rw [b, Nat.mod_self, Nat.mod_eq_of_lt (by omega)] at h3; omega
            · rw [Nat.mod_eq_of_lt (by omega), Nat.mod_eq_of_lt (by omega)] at h3; omega
        exact ho.2.2 (hut ▸ hwo t (Nat.le_refl _))
  · rintro rfl
    have h1 := h.next hk (k - 1)
    rw [show k - 1 + 1 = k by omega, rnode_full hs] at h1
    exact ⟨_, h1, h.ov hk hs _⟩
theorem RingG.lb (h : RingG g k s) (hk : 0 < k) (hs : 1 ≤ s ∧ s ≤ k) (v : Nat) : LB g s v ↔ 1 ≤ v ∧ v ≤ k := by
  constructor
  · intro hv
    have ho := hv.over ((h.hb hk hs s).2 rfl).ov
    cases ho.2.1 with
    | refl => exact absurd (WayO.zero (by omega)) ho.2.2
    | step _ hc =>
      rcases (h _ _).1 hc with ⟨_, e⟩ | ⟨_, _, e⟩
      · omega
      · have := Nat.mod_lt (by assumption) hk; omega
  · intro hv
    obtain ⟨j, rfl⟩ := rnode_all hs hv
    have back : ∀ j, LB g s (rnode k s (j + 1)) → LB g s (rnode k s j) := fun j hj => by
      have h1 := h.next hk j
      by_cases e : rnode k s (j + 1) = s
      · rw [e] at h1
        exact .back h1 (h.ov hk hs j)
      · exact .step hj e h1 (LT.ov_self (h.way hk hs j))
    have all : ∀ d j, LB g s (rnode k s (j + d)) → LB g s (rnode k s j) := fun d => by
      induction d with
      | zero => exact fun j hj => hj
      | succ d ih => exact fun j hj => ih j (back _ (by rwa [Nat.add_assoc]))
    have hper : rnode k s (j * k) = s := by
      unfold rnode
      rw [Nat.add_mul_mod_self_right, Nat.mod_eq_of_lt (by omega)]; omega
    refine all (j * k - j) j ?_
    have : j ≤ j * k := Nat.le_mul_of_pos_right j hk
    rw [show j + (j * k - j) = j * k by omega, hper]
    exact .head
theorem nb_row (hk : 0 < k) (u v : Nat) : v ∈ nb (graphB (k + 1) (rowE (k - 1))) u ↔ u < k ∧ v = u + 1 := by
  rw [nb_graphB (k + 1) (by omega)]
  have hm : ∀ x, x ≤ k → x % (k + 1) = x := fun x h => Nat.mod_eq_of_lt (by omega)
  constructor
  · rintro ⟨p, hp, h1, h2⟩
    rcases List.mem_cons.1 hp with rfl | hp
    · rw [hm _ (by simp only; omega)] at h1 h2
      simp only at h1 h2
      omega
    · obtain ⟨j, hj, rfl⟩ := List.mem_map.1 hp
      have hj := List.mem_range.1 hj
      simp only at h1 h2
      rw [hm _ (by omega)] at h1 h2
      omega
  · rintro ⟨h1, rfl⟩
    by_cases e : u = 0
    · subst e
      exact ⟨(0, 1), List.mem_cons_self, by simp, by rw [hm _ (by simp only; omega)]⟩
    · refine ⟨(1 + (u - 1), 2 + (u - 1)), List.mem_cons_of_mem _ (List.mem_map.2 ⟨u - 1, List.mem_range.2 (by omega), rfl⟩), ?_, ?_⟩
      · show (1 + (u - 1)) % (k + 1) = u
        rw [hm _ (by omega)]; omega
      · show (2 + (u - 1)) % (k + 1) = u + 1
        rw [hm _ (by omega)]; omega
theorem row_none (h : ∀ u v, v ∈ g u ↔ u < k ∧ v = u + 1) (y : Nat) : ¬ HB g y := by
  rintro ⟨u, hu, ho⟩
  obtain ⟨h1, rfl⟩ := (h _ _).1 hu
  have hwo : ∀ j, j ≤ u → WayO g ((u + 1 : Nat) : Int) j := fun j => by
    induction j with
    | zero => exact fun _ => .zero (by omega)
    | succ j ih => exact fun hj => (ih (by omega)).step ((h _ _).2 ⟨by omega, rfl⟩) (by omega)
  exact ho.2.2 (hwo u (Nat.le_refl _))
end
theorem LRes.ring {B k s : Nat} {g : Nat → List Nat} {v : Value} {L : List LEl} {W : World} (H : LRes B g (k + 1) v L W) (h : RingG g k s) (hk : 0 < k) (hs : 1 ≤ s ∧ s ≤ k) : ∃ A c q cc xs, L = [⟨(s : Int), A, k, c⟩] ∧ v = .slice (some ⟨q, 0, none⟩) 1 cc ∧ W.cell? ⟨q, 0, none⟩ = some (.int .i64 (s : Int)) ∧ W.cell? ⟨q, 1, none⟩ = some (.slice A k c) ∧ IsSetI W B (.slice A k c) xs ∧ xs.length = k ∧ (0 : Int) ∉ xs := by
  have key : ∀ e ∈ L, e.h = (s : Int) ∧ e.k = k ∧ ∃ xs, IsSetI W B e.v xs ∧ xs.length = k ∧ (0 : Int) ∉ xs := fun e he => by
    obtain ⟨xs, y, hset, hkk, _, hy, hx, _, hb⟩ := H.head_eq he
    have h1 := (h.hb hk hs y).1 hb
    subst h1
    have hxs : xs = (List.range k).map (fun i => ((1 + i : Nat) : Int)) := srt_ext ordI _ _ hset.srt (by
      unfold Srt
      rw [List.pairwise_map]
      exact List.pairwise_lt_range.imp (fun h => by unfold ltI; simp; omega)) (fun x => by
      rw [hx]
      constructor
      · rintro ⟨z, rfl, hz⟩
        have := (h.lb hk hs z).1 hz
        exact List.mem_map.2 ⟨z - 1, List.mem_range.2 (by omega), by congr 1; omega⟩
      · intro hm
        obtain ⟨i, hi, rfl⟩ := List.mem_map.1 hm
        have := List.mem_range.1 hi
        exact ⟨1 + i, rfl, (h.lb hk hs _).2 (by omega)⟩)
    have hlen : xs.length = k := by rw [hxs]; simp
    refine ⟨hy, by omega, xs, hset, hlen, fun h0 => ?_⟩
    obtain ⟨z, e, hz⟩ := (hx 0).1 h0
    have := (h.lb hk hs z).1 hz
    omega
  obtain ⟨e, he, _⟩ := (H.heads s).2 ⟨by omega, (h.hb hk hs s).2 rfl⟩
  have hone : L.length = 1 := by
    have hinj := H.inj
    have hrep : L.map (fun e => e.h.toNat) = List.replicate L.length s := by
      apply List.eq_replicate_iff.2
      refine ⟨by simp, fun b hb => ?_⟩
      obtain ⟨e, he, rfl⟩ := List.mem_map.1 hb
      rw [(key e he).1]; simp
    rw [hrep] at hinj
    have hpos := List.length_pos_of_mem he
    have := (List.nodup_replicate).1 hinj
    omega
  obtain ⟨⟨eh, eA, ek, ec⟩, rfl⟩ := List.length_eq_one_iff.1 hone
  obtain ⟨h1, h2, xs, h3, h4, h5⟩ := key _ (List.mem_singleton.2 rfl)
  simp only at h1 h2
  subst h1 h2
  obtain ⟨A0, c0, rfl, hla⟩ := H.lr
  obtain ⟨q, xs', y, rfl, c1, c2, _, _, _, hy, _⟩ := hla.at_ 0 _ rfl
  simp only at hy
  have hy := Int.natCast_inj.1 hy
  subst hy
  exact ⟨eA, ec, q, c0, xs, rfl, rfl, by simpa using c1, by simpa [LEl.v] using c2, by simpa [LEl.v] using h3, h4, h5⟩
theorem LRes.none {B n : Nat} {g : Nat → List Nat} {v : Value} {L : List LEl} {W : World} (H : LRes B g n v L W) (h : ∀ y, ¬ HB g y) : ∃ A c, v = .slice A 0 c := by
  obtain ⟨A, c, e, _⟩ := H.lr
  have : L = [] := by
    cases hL : L with
    | nil => rfl
    | cons e t =>
      obtain ⟨xs, y, _, _, _, _, _, _, hb⟩ := H.head_eq (e := e) (by rw [hL]; exact List.mem_cons_self)
      exact absurd hb (h y)
  subst this
  exact ⟨A, c, e⟩
end Go.Proofs.Ytnkbbjeepdjamaa
