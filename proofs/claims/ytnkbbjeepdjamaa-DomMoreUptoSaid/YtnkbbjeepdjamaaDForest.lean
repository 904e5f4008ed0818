/- Dominators, plain: the forest, the buckets, the half-dominators, as rows of numbers of places. No condition. -/
import Derived.Test.YtnkbbjeepdjamaaDSemi
namespace Go.Proofs.Ytnkbbjeepdjamaa
namespace LT
theorem pre_inj {s : List Nat} (hnd : s.Nodup) {j k v : Nat} (h1 : s[j]? = some v) (h2 : s[k]? = some v) : j = k := by
  obtain ⟨hj, hje⟩ := List.getElem?_eq_some_iff.1 h1
  obtain ⟨hk, hke⟩ := List.getElem?_eq_some_iff.1 h2
  exact (List.getElem_inj hnd).1 (hje.trans hke.symm)
/-- The forest: those from number i0 on are joined to one above, with the least half-dominator on the way. -/
structure Forest (s : List Nat) (A : Nat → Nat → Prop) (sd : Nat → Nat) (i0 : Nat) (root label : List Int) : Prop where
  un : ∀ j v : Nat, j < i0 → s[j]? = some v → root[v]? = some (-1) ∧ label[v]? = some (v : Int)
  ln : ∀ j v : Nat, i0 ≤ j → s[j]? = some v → ∃ r u l x : Nat, s[r]? = some u ∧ root[v]? = some (u : Int) ∧ s[l]? = some x ∧ label[v]? = some (x : Int) ∧ Arg A sd r j l ∧ ∀ y, A r y → r ≠ y → A y j → i0 ≤ y
section
variable {s : List Nat} {E A : Nat → Nat → Prop} {p : Nat → Nat} {sd : Nat → Nat} (h : Dfs s.length E A p) (hnd : s.Nodup)
include h
omit h in
theorem Arg.anc {r j l : Nat} (htr : ∀ i j k, A i j → A j k → A i k) (h : Arg A sd r j l) : A r j := htr _ _ _ h.1 h.2.2.1
theorem Arg.join {r2 r j l2 l : Nat} (h1 : Arg A sd r2 r l2) (h2 : Arg A sd r j l) :
    Arg A sd r2 j (if sd l2 < sd l then l2 else l) ∧ (∀ y, A r2 y → r2 ≠ y → A y j → (A r2 y ∧ r2 ≠ y ∧ A y r) ∨ (A r y ∧ r ≠ y ∧ A y j)) := by
  have a1 := h1.anc h.trans
  have a2 := h2.anc h.trans
  have l1 := h.le _ _ a1
  have l3 := h.le _ _ h1.1
  have l4 := h.le _ _ h1.2.2.1
  have l5 := h.le _ _ h2.1
  have n1 := h1.2.1
  have n2 := h2.2.1
  have split : ∀ y, A r2 y → r2 ≠ y → A y j → (A r2 y ∧ r2 ≠ y ∧ A y r) ∨ (A r y ∧ r ≠ y ∧ A y j) := fun y y1 y2 y3 => by
    by_cases hy : y ≤ r
    · exact .inl ⟨y1, y2, anc_chain h y3 a2 hy⟩
    · exact .inr ⟨anc_chain h a2 y3 (by omega), by omega, y3⟩
  refine ⟨?_, split⟩
  split
  · rename_i hc
    refine ⟨h1.1, n1, h.trans _ _ _ h1.2.2.1 a2, fun y y1 y2 y3 => ?_⟩
    rcases split y y1 y2 y3 with ⟨z1, z2, z3⟩ | ⟨z1, z2, z3⟩
    · exact h1.2.2.2 y z1 z2 z3
    · have := h2.2.2.2 y z1 z2 z3; omega
  · rename_i hc
    refine ⟨h.trans _ _ _ a1 h2.1, by omega, h2.2.2.1, fun y y1 y2 y3 => ?_⟩
    rcases split y y1 y2 y3 with ⟨z1, z2, z3⟩ | ⟨z1, z2, z3⟩
    · have := h1.2.2.2 y z1 z2 z3; omega
    · exact h2.2.2.2 y z1 z2 z3
include hnd
/-- A way to the root is made short. -/
theorem Forest.short {i0 : Nat} {root label : List Int} (hf : Forest s A sd i0 root label) {j r r2 l l2 v u2 x x2 : Nat} (hj : i0 ≤ j) (hv : s[j]? = some v)
    (hr2 : s[r2]? = some u2) (hl : s[l]? = some x) (hl2 : s[l2]? = some x2)
    (ha : Arg A sd r j l) (ha2 : Arg A sd r2 r l2) (hlk : ∀ y, A r y → r ≠ y → A y j → i0 ≤ y) (hlk2 : ∀ y, A r2 y → r2 ≠ y → A y r → i0 ≤ y) (hvr : v < root.length) (hvl : v < label.length) :
    Forest s A sd i0 (root.set v (u2 : Int)) (label.set v (if sd l2 < sd l then (x2 : Int) else (x : Int))) := by
  have key := Arg.join h ha2 ha
  refine ⟨fun k z hk hz => ?_, fun k z hk hz => ?_⟩
  · have hne : v ≠ z := fun e => by subst e; have := pre_inj hnd hv hz; omega
    rw [List.getElem?_set_ne hne, List.getElem?_set_ne hne]
    exact hf.un k z hk hz
  · by_cases hne : v = z
    · subst hne
      obtain rfl := pre_inj hnd hv hz
      rw [List.getElem?_set_self hvr, List.getElem?_set_self hvl]
      refine ⟨r2, u2, if sd l2 < sd l then l2 else l, if sd l2 < sd l then x2 else x, hr2, rfl, ?_, ?_, key.1, fun y y1 y2 y3 => ?_⟩
      · split <;> assumption
      · split <;> rfl
      · rcases key.2 y y1 y2 y3 with ⟨z1, z2, z3⟩ | ⟨z1, z2, z3⟩
        · exact hlk2 y z1 z2 z3
        · exact hlk y z1 z2 z3
    · rw [List.getElem?_set_ne hne, List.getElem?_set_ne hne]
      exact hf.ln k z hk hz
/-- One more is joined to its parent. -/
theorem Forest.link {i w u : Nat} {root label : List Int} (hf : Forest s A sd (i + 1) root label) (h0 : 0 < i) (hw : s[i]? = some w) (hu : s[p i]? = some u) : Forest s A sd i (root.set w (u : Int)) label := by
  have hi := (List.getElem?_eq_some_iff.1 hw).1
  have hp := h.par i h0 hi
  refine ⟨fun k z hk hz => ?_, fun k z hk hz => ?_⟩
  · have hne : w ≠ z := fun e => by subst e; have := pre_inj hnd hw hz; omega
    rw [List.getElem?_set_ne hne]
    exact hf.un k z (by omega) hz
  · by_cases hne : w = z
    · subst hne
      obtain rfl := pre_inj hnd hw hz
      have h1 := hf.un i w (by omega) hw
      have hwr := (List.getElem?_eq_some_iff.1 h1.1).1
      rw [List.getElem?_set_self hwr]
      have only : ∀ y, A (p i) y → p i ≠ y → A y i → y = i := fun y y1 y2 y3 => by
        apply Classical.byContradiction
        intro hc
        have := h.le _ _ (h.up _ _ y3 hc)
        have := h.le _ _ y1
        omega
      refine ⟨p i, u, i, w, hu, rfl, hw, h1.2, ⟨hp.2, by omega, h.refl _ hi, fun y y1 y2 y3 => by rw [only y y1 y2 y3]; exact Nat.le_refl _⟩, fun y y1 y2 y3 => by rw [only y y1 y2 y3]; exact Nat.le_refl _⟩
    · rw [List.getElem?_set_ne hne]
      have : k ≠ i := fun e => hne (by subst e; rw [hw] at hz; exact Option.some.inj hz)
      obtain ⟨r, u', l, x, h1, h2, h3, h4, h5, h6⟩ := hf.ln k z (by omega) hz
      exact ⟨r, u', l, x, h1, h2, h3, h4, h5, fun y y1 y2 y3 => by have := h6 y y1 y2 y3; omega⟩
end
/-- Half-dominators while number i is looked at: of those behind, its own so far, those ahead have their numbers. -/
def sv (sd : Nat → Nat) (i c j : Nat) : Nat := if i < j then sd j else if j = i then c else j
structure Semi (s : List Nat) (sd : Nat → Nat) (n i c : Nat) (semi : List Int) : Prop where
  met : ∀ j v, s[j]? = some v → semi[v]? = some ((sv sd i c j : Nat) : Int)
  un : ∀ v, v < n → v ∉ s → semi[v]? = some (-1)
  len : semi.length = n
theorem Semi.less {s : List Nat} {sd : Nat → Nat} {n i c : Nat} {semi : List Int} (h : Semi s sd n i c semi) (hnd : s.Nodup) {w : Nat} (hw : s[i]? = some w) (c' : Nat) : Semi s sd n i c' (semi.set w (c' : Int)) := by
  have h1 := h.met i w hw
  have hwl := (List.getElem?_eq_some_iff.1 h1).1
  refine ⟨fun j v hv => ?_, fun v hv hn => ?_, by rw [List.length_set]; exact h.len⟩
  · by_cases e : w = v
    · subst e
      obtain rfl := pre_inj hnd hw hv
      rw [List.getElem?_set_self hwl]
      simp [sv]
    · have hji : j ≠ i := fun e2 => e (by subst e2; rw [hw] at hv; exact Option.some.inj hv)
      rw [List.getElem?_set_ne e, h.met j v hv]
      simp [sv, hji]
  · rw [List.getElem?_set_ne (fun e => hn (by subst e; exact List.mem_of_getElem? hw))]
    exact h.un v hv hn
theorem Semi.next {s : List Nat} {sd : Nat → Nat} {n i : Nat} {semi : List Int} (h0 : 0 < i) (h : Semi s sd n i (sd i) semi) : Semi s sd n (i - 1) (i - 1) semi := by
  refine ⟨fun j v hv => ?_, h.un, h.len⟩
  rw [h.met j v hv]
  congr 2
  unfold sv
  by_cases h1 : i < j
  · rw [if_pos h1, if_pos (by omega)]
  · by_cases h2 : j = i
    · subst h2; rw [if_neg h1, if_pos rfl, if_pos (by omega)]
    · rw [if_neg h1, if_neg h2, if_neg (by omega)]
      split <;> omega
/-- What the least so far is good for, of the places ahead that were looked at. -/
def Cand (s : List Nat) (A : Nat → Nat → Prop) (sd : Nat → Nat) (i c : Nat) (l : List Nat) : Prop :=
  sd i ≤ c ∧ c ≤ i ∧ ∀ v ∈ l, ∀ j, s[j]? = some v → (j < i → c ≤ j) ∧ (i < j → ∀ u, i < u → A u j → c ≤ sd u)
section
variable {s : List Nat} {g : Nat → List Nat} {A : Nat → Nat → Prop} {p : Nat → Nat} {sd : Nat → Nat} {E : Nat → Nat → Prop}
theorem Cand.start (h : Dfs s.length E A p) (hsd : ∀ j, 0 < j → j < s.length → IsSd E j (sd j)) {i : Nat} (h0 : 0 < i) (hi : i < s.length) : Cand s A sd i i [] :=
  ⟨Nat.le_of_lt (sd_lt h h0 hi (hsd i h0 hi)).1, Nat.le_refl _, by simp⟩
theorem Cand.skip {i c v : Nat} {l : List Nat} (h : Cand s A sd i c l) (hv : v ∉ s) : Cand s A sd i c (l ++ [v]) := by
  refine ⟨h.1, h.2.1, fun x hx j hj => ?_⟩
  rcases List.mem_append.1 hx with hx | hx
  · exact h.2.2 x hx j hj
  · simp at hx; subst hx; exact absurd (List.mem_of_getElem? hj) hv
/-- One from ahead, itself not joined yet. -/
theorem Cand.near (hd : Dfs s.length E A p) (hsd : ∀ j, 0 < j → j < s.length → IsSd E j (sd j)) (hnd : s.Nodup) {i c j v : Nat} {l : List Nat} (h : Cand s A sd i c l) (h0 : 0 < i) (hj : s[j]? = some v) (hji : j ≤ i) (he : E j i) :
    Cand s A sd i (min c (sv sd i c j)) (l ++ [v]) := by
  have hs := (hsd i h0 (hd.ed _ _ he).2).2 j (.base he)
  have e : sv sd i c j = if j = i then c else j := by unfold sv; rw [if_neg (by omega)]
  rw [e]
  refine ⟨?_, ?_, fun x hx k hk => ?_⟩
  · have := h.1; split <;> omega
  · have := h.2.1; split <;> omega
  · rcases List.mem_append.1 hx with hx | hx
    · have h1 := h.2.2 x hx k hk
      exact ⟨fun hl => by have := h1.1 hl; omega, fun hl u hu ha => by have := h1.2 hl u hu ha; omega⟩
    · simp at hx; subst hx
      obtain rfl := pre_inj hnd hj hk
      exact ⟨fun hl => by rw [if_neg (by omega)]; omega, fun hl => by omega⟩
/-- One from behind, joined. -/
theorem Cand.far (hd : Dfs s.length E A p) (hsd : ∀ j, 0 < j → j < s.length → IsSd E j (sd j)) (hnd : s.Nodup) {i c j v r m : Nat} {l : List Nat} (h : Cand s A sd i c l) (h0 : 0 < i) (hj : s[j]? = some v) (hji : i < j) (he : E j i)
    (hr : r < i + 1) (ha : Arg A sd r j m) (hlk : ∀ y, A r y → r ≠ y → A y j → i + 1 ≤ y) : Cand s A sd i (min c (sv sd i c m)) (l ++ [v]) := by
  have hm1 := hlk m ha.1 ha.2.1 ha.2.2.1
  have hml := hd.le _ _ ha.2.2.1
  have hml' := hd.le _ _ ha.1
  have hs := (hsd i h0 (hd.ed _ _ he).2).2 (sd m) (up_walk hd (by omega) ha.2.2.1 he (hsd m (by omega) hml'.2).1)
  have e : sv sd i c m = sd m := by unfold sv; rw [if_pos (by omega)]
  rw [e]
  refine ⟨by have := h.1; omega, by have := h.2.1; omega, fun x hx k hk => ?_⟩
  rcases List.mem_append.1 hx with hx | hx
  · have h1 := h.2.2 x hx k hk
    exact ⟨fun hl => by have := h1.1 hl; omega, fun hl u hu ha => by have := h1.2 hl u hu ha; omega⟩
  · simp at hx; subst hx
    obtain rfl := pre_inj hnd hj hk
    refine ⟨fun hl => by omega, fun _ u hu hau => ?_⟩
    have := ha.2.2.2 u (anc_chain hd (ha.anc hd.trans) hau (by omega)) (by omega) hau
    omega
theorem Cand.done (hd : Dfs s.length E A p) (hsd : ∀ j, 0 < j → j < s.length → IsSd E j (sd j)) {i c : Nat} {l : List Nat} (h : Cand s A sd i c l) (h0 : 0 < i) (hi : i < s.length)
    (hl : ∀ j v, s[j]? = some v → E j i → v ∈ l) : c = sd i := by
  have hs := hsd i h0 hi
  have hlt := sd_lt hd h0 hi hs
  have hE : ∀ j, E j i → ∃ v, s[j]? = some v ∧ v ∈ l := fun j he => by
    have hj := (hd.ed _ _ he).1
    exact ⟨_, List.getElem?_eq_getElem hj, hl j _ (List.getElem?_eq_getElem hj) he⟩
  have h1 := h.1
  suffices c ≤ sd i by omega
  rcases up_cases hd hs.1 with he | ⟨u, v, h2, h3, h4, h5⟩
  · obtain ⟨v, hv, hm⟩ := hE _ he
    exact (h.2.2 v hm _ hv).1 hlt.1
  · obtain ⟨x, hx, hm⟩ := hE _ h4
    have h6 := hd.le _ _ h3
    have := (h.2.2 x hm _ hx).2 (by omega) u h2 h3
    have := (hsd u (by omega) (by omega)).2 _ h5
    omega
end
end LT
end Go.Proofs.Ytnkbbjeepdjamaa
