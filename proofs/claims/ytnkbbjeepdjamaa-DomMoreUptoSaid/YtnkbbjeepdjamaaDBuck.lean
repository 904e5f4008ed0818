/- Dominators, plain: the buckets; the two rounds over the numbers. No condition. -/
import Derived.Test.YtnkbbjeepdjamaaDForest
namespace Go.Proofs.Ytnkbbjeepdjamaa
namespace LT
/-- Number j's place has got its own, or one that has the same nearest one. -/
def Done (s : List Nat) (A : Nat → Nat → Prop) (sd : Nat → Nat) (up : List Int) (j x : Nat) : Prop :=
  ∃ m y : Nat, Arg A sd (sd j) j m ∧ s[if sd m < sd j then m else sd j]? = some y ∧ up[x]? = some (y : Int)
/-- The buckets: those from behind i are in theirs, or done; those of parents from behind k are done. -/
structure Buck (s : List Nat) (A : Nat → Nat → Prop) (sd p : Nat → Nat) (n i k : Nat) (b : List (List Nat)) (up : List Int) : Prop where
  inb : ∀ q u x, s[q]? = some u → x ∈ b.getD u [] → ∃ j, i < j ∧ s[j]? = some x ∧ sd j = q
  has : ∀ j x u, i < j → s[j]? = some x → s[sd j]? = some u → x ∈ b.getD u [] ∨ Done s A sd up j x
  done : ∀ c j x, k < c → c ≤ j → s[j]? = some x → sd j = p c → Done s A sd up j x
  un : ∀ v, v < n → (∀ j, 0 < j → s[j]? ≠ some v) → up[v]? = some (-1)
  lup : up.length = n
  lb : b.length = n
  cnt : ∀ u, (b.getD u []).length + i + 1 ≤ s.length
theorem getD_setL {b : List (List Nat)} {k u : Nat} {l : List Nat} (hk : k < b.length) : (b.set k l).getD u [] = if k = u then l else b.getD u [] := by
  simp only [List.getD_eq_getElem?_getD, List.getElem?_set]
  by_cases e : k = u
  · subst e; simp [hk]
  · simp [e]
section
variable {s : List Nat} {E A : Nat → Nat → Prop} {p sd : Nat → Nat} (h : Dfs s.length E A p) (hsd : ∀ j, 0 < j → j < s.length → IsSd E j (sd j)) (hnd : s.Nodup)
theorem Buck.start {n : Nat} (h0 : 0 < s.length) : Buck s A sd p n (s.length - 1) (s.length - 1) (List.replicate n []) (List.replicate n (-1)) := by
  have hr : ∀ u x, x ∉ (List.replicate n ([] : List Nat)).getD u [] := fun u x hx => by
    rw [List.getD_eq_getElem?_getD, List.getElem?_replicate] at hx
    split at hx <;> simp at hx
  refine ⟨fun q u x _ hx => absurd hx (hr u x), fun j x u hj hx => ?_, fun c j x hc hj hx => ?_, fun v hv _ => by simp [hv], by simp, by simp, fun u => ?_⟩
  · have := (List.getElem?_eq_some_iff.1 hx).1; omega
  · have := (List.getElem?_eq_some_iff.1 hx).1; omega
  · have : ((List.replicate n ([] : List Nat)).getD u []).length = 0 := by
      rw [List.getD_eq_getElem?_getD, List.getElem?_replicate]
      split <;> simp
    omega
include h hsd hnd
omit hnd in
theorem sd_at {j : Nat} (h0 : 0 < j) (hj : j < s.length) : ∃ u, s[sd j]? = some u := by
  have := sd_lt h h0 hj (hsd j h0 hj)
  exact ⟨_, List.getElem?_eq_getElem (by omega)⟩
omit h hsd in
/-- One more, into its half-dominator's bucket. -/
theorem Buck.add {n i w k : Nat} {b : List (List Nat)} {up : List Int} (hb : Buck s A sd p n i i b up) (h0 : 0 < i) (hw : s[i]? = some w) (hk : s[sd i]? = some k) (hkn : k < n) :
    Buck s A sd p n (i - 1) i (b.set k (b.getD k [] ++ [w])) up := by
  have hkb : k < b.length := by rw [hb.lb]; exact hkn
  refine ⟨fun q u x hu hx => ?_, fun j x u hj hx hu => ?_, hb.done, hb.un, hb.lup, by simp [hb.lb], fun u => ?_⟩
  · rw [getD_setL hkb] at hx
    by_cases e : k = u
    · rw [if_pos e] at hx
      subst e
      obtain rfl := pre_inj hnd hk hu
      rcases List.mem_append.1 hx with hx | hx
      · obtain ⟨j, h1, h2, h3⟩ := hb.inb _ _ _ hu hx
        exact ⟨j, by omega, h2, h3⟩
      · simp at hx; subst hx
        exact ⟨i, by omega, hw, rfl⟩
    · rw [if_neg e] at hx
      obtain ⟨j, h1, h2, h3⟩ := hb.inb _ _ _ hu hx
      exact ⟨j, by omega, h2, h3⟩
  · rw [getD_setL hkb]
    by_cases hji : j = i
    · subst hji
      rw [hk] at hu
      obtain rfl := Option.some.inj hu
      rw [hw] at hx
      obtain rfl := Option.some.inj hx
      rw [if_pos rfl]; simp
    · refine (hb.has j x u (by omega) hx hu).imp (fun hm => ?_) id
      split
      · rename_i e; subst e; exact List.mem_append_left _ hm
      · exact hm
  · rw [getD_setL hkb]
    have h1 := hb.cnt u
    split
    · rename_i e; subst e; rw [List.length_append, List.length_singleton]; omega
    · omega
omit hnd in
/-- The root of one in the bucket is the bucket's place. -/
theorem arg_root {i j r m : Nat} (h0 : 0 < i) (hi : i ≤ j) (hj : j < s.length) (hs : sd j = p i) (ha : Arg A sd r j m) (hr : r < i) (hlk : ∀ y, A r y → r ≠ y → A y j → i ≤ y) : r = sd j := by
  have h1 := sd_lt h (by omega) hj (hsd j (by omega) hj)
  have h2 := ha.anc h.trans
  have h3 := h.par i h0 (by omega)
  rcases Nat.lt_trichotomy r (sd j) with hl | hl | hl
  · have := hlk (sd j) (anc_chain h h2 h1.2 (by omega)) (by omega) h1.2
    omega
  · exact hl
  · have := h.le _ _ (h.up _ _ (h.int _ _ _ h2 (by omega) hi) (by omega))
    omega
omit h hsd in
/-- One in the bucket is done. -/
theorem Buck.put {n i k j x v : Nat} {b : List (List Nat)} {up : List Int} (hb : Buck s A sd p n i k b up) (h0 : 0 < j) (hx : s[j]? = some x) (hd : Done s A sd (up.set x (v : Int)) j x) : Buck s A sd p n i k b (up.set x (v : Int)) := by
  have keep : ∀ j' x', s[j']? = some x' → Done s A sd up j' x' → Done s A sd (up.set x (v : Int)) j' x' := fun j' x' hx' hd' => by
    by_cases e : x = x'
    · subst e
      obtain rfl := pre_inj hnd hx hx'
      exact hd
    · obtain ⟨m, y, h1, h2, h3⟩ := hd'
      exact ⟨m, y, h1, h2, by rw [List.getElem?_set_ne e]; exact h3⟩
  refine ⟨hb.inb, fun j' x' u hj' hx' hu => (hb.has j' x' u hj' hx' hu).imp id (keep j' x' hx'), fun c j' x' hc hj' hx' hs => keep j' x' hx' (hb.done c j' x' hc hj' hx' hs), fun v' hv' hn => ?_, by simp [hb.lup], hb.lb, hb.cnt⟩
  rw [List.getElem?_set_ne (fun e => hn j h0 (by rw [← e]; exact hx))]
  exact hb.un v' hv' hn
omit h hsd in
theorem Done.keep {j x j' x' v : Nat} {up : List Int} (hx : s[j]? = some x) (hd : Done s A sd (up.set x (v : Int)) j x) (hx' : s[j']? = some x') (hd' : Done s A sd up j' x') : Done s A sd (up.set x (v : Int)) j' x' := by
  by_cases e : x = x'
  · subst e
    obtain rfl := pre_inj hnd hx hx'
    exact hd
  · obtain ⟨m, y, h1, h2, h3⟩ := hd'
    exact ⟨m, y, h1, h2, by rw [List.getElem?_set_ne e]; exact h3⟩
omit h hsd hnd in
/-- The bucket is emptied. -/
theorem Buck.clear {n i u : Nat} {b : List (List Nat)} {up : List Int} (hb : Buck s A sd p n (i - 1) i b up) (h0 : 0 < i) (hu : s[p i]? = some u) (hun : u < n)
    (hall : ∀ j x, s[j]? = some x → x ∈ b.getD u [] → Done s A sd up j x) : Buck s A sd p n (i - 1) (i - 1) (b.set u []) up := by
  have hub : u < b.length := by rw [hb.lb]; exact hun
  refine ⟨fun q v x hv hx => ?_, fun j x v hj hx hv => ?_, fun c j x hc hj hx hs => ?_, hb.un, hb.lup, by simp [hb.lb], fun v => ?_⟩
  · rw [getD_setL hub] at hx
    split at hx
    · simp at hx
    · exact hb.inb _ _ _ hv hx
  · rw [getD_setL hub]
    rcases hb.has j x v hj hx hv with hm | hd
    · by_cases e : u = v
      · subst e; exact .inr (hall j x hx hm)
      · rw [if_neg e]; exact .inl hm
    · exact .inr hd
  · by_cases e : c = i
    · subst e
      have hjs := (List.getElem?_eq_some_iff.1 hx).1
      rcases hb.has j x u (by omega) hx (by rw [hs]; exact hu) with hm | hd
      · exact hall j x hx hm
      · exact hd
    · exact hb.done c j x (by omega) hj hx hs
  · rw [getD_setL hub]
    have h1 := hb.cnt v
    split
    · have := hb.cnt u; simp only [List.length_nil]; omega
    · exact h1
omit hsd hnd in
theorem child {q : Nat} : ∀ (j : Nat), A q j → q < j → ∃ c, 0 < c ∧ c ≤ j ∧ p c = q := by
  intro j
  induction j using Nat.strongRecOn with
  | _ j ih =>
    intro ha hlt
    have hj := h.le _ _ ha
    by_cases e : p j = q
    · exact ⟨j, by omega, Nat.le_refl _, e⟩
    · have h1 := h.par j (by omega) hj.2
      have h2 := h.up _ _ ha (by omega)
      have h3 := h.le _ _ h2
      obtain ⟨c, h4, h5, h6⟩ := ih (p j) h1.1 h2 (by omega)
      exact ⟨c, h4, by omega, h6⟩
omit hnd in
/-- Behind the first round all are done. -/
theorem Buck.all {n : Nat} {b : List (List Nat)} {up : List Int} (hb : Buck s A sd p n 0 0 b up) {j x : Nat} (h0 : 0 < j) (hx : s[j]? = some x) : Done s A sd up j x := by
  have hj := (List.getElem?_eq_some_iff.1 hx).1
  have hs := sd_lt h h0 hj (hsd j h0 hj)
  obtain ⟨c, h1, h2, h3⟩ := child h j hs.2 hs.1
  exact hb.done c j x h1 h2 hx h3.symm
end
/-- While the second round is at number i. -/
structure Second (s : List Nat) (E A : Nat → Nat → Prop) (sd : Nat → Nat) (n i : Nat) (up : List Int) : Prop where
  near : ∀ j x, 0 < j → j < i → s[j]? = some x → ∃ d u : Nat, s[d]? = some u ∧ up[x]? = some (u : Int) ∧ Near E j d
  done : ∀ j x, i ≤ j → s[j]? = some x → Done s A sd up j x
  un : ∀ v, v < n → (∀ j, 0 < j → s[j]? ≠ some v) → up[v]? = some (-1)
  lup : up.length = n
section
variable {s : List Nat} {E A : Nat → Nat → Prop} {p sd : Nat → Nat} (h : Dfs s.length E A p) (hsd : ∀ j, 0 < j → j < s.length → IsSd E j (sd j)) (hnd : s.Nodup)
include h hsd hnd
omit hnd in
theorem Second.start {n : Nat} {b : List (List Nat)} {up : List Int} (hb : Buck s A sd p n 0 0 b up) : Second s E A sd n 1 up :=
  ⟨fun j x h0 h1 => by omega, fun j x hj hx => hb.all h hsd (by omega) hx, hb.un, hb.lup⟩
/-- At number i: what it holds is its half-dominator, or one whose own is known; then this one's own is it. -/
theorem Second.look {n i w : Nat} {up : List Int} (hs : Second s E A sd n i up) (h0 : 0 < i) (hw : s[i]? = some w) :
    ∃ k u : Nat, s[sd i]? = some k ∧ up[w]? = some (u : Int) ∧ ((u = k ∧ Second s E A sd n (i + 1) up) ∨ (u ≠ k ∧ ∃ v : Nat, up[u]? = some (v : Int) ∧ Second s E A sd n (i + 1) (up.set w (v : Int)))) := by
  have hi := (List.getElem?_eq_some_iff.1 hw).1
  obtain ⟨m, y, h1, h2, h3⟩ := hs.done i w (Nat.le_refl _) hw
  obtain ⟨k, hk⟩ := sd_at h hsd h0 hi
  have hsl := sd_lt h h0 hi (hsd i h0 hi)
  have fin : ∀ (up' : List Int), (∀ x, x ≠ w → up'[x]? = up[x]?) → up'.length = n → (∃ d u : Nat, s[d]? = some u ∧ up'[w]? = some (u : Int) ∧ Near E i d) → Second s E A sd n (i + 1) up' := by
    intro up' ho hl hn
    have hne : ∀ j x, s[j]? = some x → j ≠ i → x ≠ w := fun j x hx hji e => hji (by subst e; exact pre_inj hnd hx hw)
    refine ⟨fun j x hj0 hji hx => ?_, fun j x hj hx => ?_, fun v hv hn' => ?_, hl⟩
    · by_cases e : j = i
      · subst e
        rw [hw] at hx
        obtain rfl := Option.some.inj hx
        exact hn
      · rw [ho x (hne j x hx e)]
        exact hs.near j x hj0 (by omega) hx
    · obtain ⟨m', y', g1, g2, g3⟩ := hs.done j x (by omega) hx
      exact ⟨m', y', g1, g2, by rw [ho x (hne j x hx (by omega))]; exact g3⟩
    · rw [ho v (fun e => hn' i h0 (by rw [e]; exact hw))]
      exact hs.un v hv hn'
  by_cases hc : sd m < sd i
  · rw [if_pos hc] at h2
    have hm1 := h.le _ _ h1.1
    have hm2 := h1.2.1
    have hm3 := h.le _ _ h1.2.2.1
    have hmi : m ≠ i := fun e => by subst e; omega
    obtain ⟨d, v, g1, g2, g3⟩ := hs.near m y (by omega) (by omega) h2
    have hwu := (List.getElem?_eq_some_iff.1 h3).1
    refine ⟨k, y, hk, h3, .inr ⟨fun e => ?_, v, g2, fin _ (fun x hx => List.getElem?_set_ne (fun e => hx e.symm)) (by simp [hs.lup]) ⟨d, v, g1, by rw [List.getElem?_set_self hwu], near_far h hsd h0 hi h1 hc g3⟩⟩⟩
    subst e
    have := pre_inj hnd h2 hk
    omega
  · rw [if_neg hc] at h2
    refine ⟨k, y, hk, h3, .inl ⟨?_, fin up (fun _ _ => rfl) hs.lup ⟨sd i, y, h2, h3, near_sd h hsd h0 hi h1 hc⟩⟩⟩
    rw [hk] at h2
    exact (Option.some.inj h2).symm
end
end LT
end Go.Proofs.Ytnkbbjeepdjamaa
