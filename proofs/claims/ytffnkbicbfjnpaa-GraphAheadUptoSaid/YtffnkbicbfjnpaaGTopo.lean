/- Depth first in a graph whose ways all rise: those behind a place are left ahead of it. -/
import Derived.Test.YtffnkbicbfjnpaaGPlain
namespace Go.Proofs.Ytffnkbicbfjnpaa
def Topo (g : Nat → List Nat) (l : List Nat) : Prop := ∀ l1 v l2, l = l1 ++ v :: l2 → ∀ w ∈ g v, w ∈ l1
theorem Topo.snoc {g : Nat → List Nat} {l : List Nat} {v : Nat} (h : Topo g l) (hv : ∀ w ∈ g v, w ∈ l) : Topo g (l ++ [v]) := by
  intro l1 u l2 e w hw
  rcases List.eq_nil_or_concat l2 with rfl | ⟨l3, x, rfl⟩
  · obtain ⟨rfl, e2⟩ := List.append_inj' e rfl
    injection e2 with e2
    subst e2
    exact hv w hw
  · have e' : l ++ [v] = (l1 ++ u :: l3) ++ [x] := by rw [e]; simp
    obtain ⟨e1, _⟩ := List.append_inj' e' rfl
    exact h l1 u l3 e1 w hw
theorem Topo.nil (g : Nat → List Nat) : Topo g [] := fun l1 v l2 e => by simp at e
theorem dfs_topo (g : Nat → List Nat) (n : Nat) (hg : ∀ i, ∀ w ∈ g i, i < w ∧ w < n) : ∀ (k v : Nat) (s : DSt), s.seen.length = n → s.seen.getD v true = false → unseen s.seen ≤ k →
    (∀ i, i < n → s.seen.getD i true = true → i ∈ s.post ∨ i < v) → Topo g s.post →
    Topo g (dfs g k v s).post ∧ (∀ i ∈ s.post, i ∈ (dfs g k v s).post) ∧ v ∈ (dfs g k v s).post ∧ ∀ i, (dfs g k v s).seen.getD i true = true → s.seen.getD i true = true ∨ i ∈ (dfs g k v s).post
  | 0, v, s, _, hv, hk, _, _ => by have := unseen_set hv; omega
  | k + 1, v, s, hn, hv, hk, ho, ht => by
    have hu := unseen_set hv
    have key : ∀ (l : List Nat) (a : DSt), (∀ w ∈ l, v < w ∧ w < n) → a.seen.length = n → unseen a.seen ≤ k → (∀ i, i < n → a.seen.getD i true = true → i ∈ a.post ∨ i ≤ v) → Topo g a.post →
        Topo g (dfsL g k l a).post ∧ (∀ i ∈ a.post, i ∈ (dfsL g k l a).post) ∧ (∀ w ∈ l, w ∈ (dfsL g k l a).post) ∧ ∀ i, (dfsL g k l a).seen.getD i true = true → a.seen.getD i true = true ∨ i ∈ (dfsL g k l a).post := by
      intro l
      induction l with
      | nil => intro a _ _ _ _ h; exact ⟨h, fun _ h => h, fun w h => absurd h (by simp), fun _ h => .inl h⟩
      | cons w l ih =>
        intro a hl han hak hao hat
        obtain ⟨hw1, hw2⟩ := hl w List.mem_cons_self
        have hl' : ∀ x ∈ l, v < x ∧ x < n := fun x hx => hl x (List.mem_cons_of_mem _ hx)
        rw [dfsL_cons]
        by_cases hs : a.seen.getD w true = true
        · rw [if_pos hs]
          obtain ⟨h1, h2, h3, h4⟩ := ih a hl' han hak hao hat
          refine ⟨h1, h2, fun x hx => ?_, h4⟩
          rcases List.mem_cons.1 hx with rfl | hx
          · rcases hao x hw2 hs with e | e
            · exact h2 x e
            · omega
          · exact h3 x hx
        · rw [if_neg hs]
          have hs' : a.seen.getD w true = false := by simpa using hs
          obtain ⟨d1, d2, d3, d4⟩ := dfs_topo g n hg k w a han hs' hak (fun i hi hsi => (hao i hi hsi).imp id (fun e => by omega)) hat
          have hc := dfs_count g k w a hs'
          obtain ⟨h1, h2, h3, h4⟩ := ih (dfs g k w a) hl' (hc.2.2.2.trans han) (Nat.le_trans hc.2.2.1 hak) (fun i hi hsi => by
            rcases d4 i hsi with e | e
            · exact (hao i hi e).imp (d2 i) id
            · exact .inl e) d1
          refine ⟨h1, fun i hi => h2 i (d2 i hi), fun x hx => ?_, fun i hi => ?_⟩
          · rcases List.mem_cons.1 hx with rfl | hx
            · exact h2 x d3
            · exact h3 x hx
          · rcases h4 i hi with e | e
            · exact (d4 i e).imp id (h2 i)
            · exact .inr e
    have hse : ∀ i, (s.enter v).seen.getD i true = true → s.seen.getD i true = true ∨ i = v := by
      intro i hi
      by_cases e : v = i
      · exact .inr e.symm
      · left
        simp only [DSt.enter, List.getD_eq_getElem?_getD, List.getElem?_set_ne e] at hi
        rw [List.getD_eq_getElem?_getD]; exact hi
    obtain ⟨h1, h2, h3, h4⟩ := key (g v) (s.enter v) (fun w hw => hg v w hw) (by simp [DSt.enter, hn]) (by simp only [DSt.enter]; omega) (fun i hi hsi => by
      rcases hse i hsi with e | e
      · exact (ho i hi e).imp id (fun h => by omega)
      · exact .inr (by omega)) ht
    rw [dfs_succ]
    simp only [DSt.leave]
    refine ⟨h1.snoc h3, fun i hi => List.mem_append_left _ (h2 i hi), by simp, fun i hi => ?_⟩
    rcases h4 i hi with e | e
    · exact (hse i e).imp id (fun e => by simp [e])
    · exact .inr (List.mem_append_left _ e)
/-- From the first. -/
theorem dfs0_topo (g : Nat → List Nat) (n : Nat) (hn : 0 < n) (hg : ∀ i, ∀ w ∈ g i, i < w ∧ w < n) : Topo g (dfs0 g n).post := by
  unfold dfs0
  rw [if_neg (by omega)]
  exact (dfs_topo g n hg n 0 (dst0 n) (by simp [dst0]) (by rw [dst0_seen]; simp; omega) (by simp [dst0, unseen_replicate]) (fun i hi h => by rw [dst0_seen] at h; simp at h; omega) (Topo.nil g)).1
/-- In the order turned round, a place stands ahead of those behind it. -/
theorem topo_before {g : Nat → List Nat} {l : List Nat} (h : Topo g l) (hnd : l.Nodup) {a b v w : Nat} (ha : l.reverse[a]? = some v) (hb : l.reverse[b]? = some w) (hw : w ∈ g v) : a < b := by
  obtain ⟨hal, hae⟩ := List.getElem?_eq_some_iff.1 ha
  have e : l.reverse = l.reverse.take a ++ v :: l.reverse.drop (a + 1) := by
    rw [← hae, List.getElem_cons_drop, List.take_append_drop]
  have e2 : l = (l.reverse.drop (a + 1)).reverse ++ v :: (l.reverse.take a).reverse := by
    have := congrArg List.reverse e
    rw [List.reverse_reverse, List.reverse_append, List.reverse_cons, List.append_assoc, List.singleton_append] at this
    exact this
  have hm : w ∈ l.reverse.drop (a + 1) := List.mem_reverse.1 (h _ _ _ e2 w hw)
  obtain ⟨j, hj, hje⟩ := List.getElem_of_mem hm
  rw [List.getElem_drop] at hje
  obtain ⟨hbl, hbe⟩ := List.getElem?_eq_some_iff.1 hb
  have hnd' : l.reverse.Nodup := (List.reverse_perm l).nodup_iff.2 hnd
  have hj' : a + 1 + j < l.reverse.length := by simp only [List.length_drop] at hj; omega
  have hij : b = a + 1 + j := (List.getElem_inj hnd').1 (hbe.trans hje.symm)
  omega
end Go.Proofs.Ytffnkbicbfjnpaa
