/- Dominators, plain: what the tree tells of places. No condition. -/
import Derived.Test.YtnkbbjeepdjamaaDBuck
import Derived.Test.YtnkbbjeepdjamaaGRefP
namespace Go.Proofs.Ytnkbbjeepdjamaa
namespace LT
/-- a is over b: both are reached, b not without a. -/
def Ov (g : Nat → List Nat) (a b : Nat) : Prop := Way g 0 a ∧ Way g 0 b ∧ ¬ WayO g (a : Int) b
theorem wayO_self {g : Nat → List Nat} {a : Nat} : ¬ WayO g (a : Int) a := by
  intro h
  cases h with
  | zero h => exact h rfl
  | step _ _ h => exact h rfl
theorem ov_self {g : Nat → List Nat} {a : Nat} (h : Way g 0 a) : Ov g a a := ⟨h, h, wayO_self⟩
/-- The numbers of all places that are reached. -/
structure Nums (g : Nat → List Nat) (n : Nat) (s : VSt) : Prop where
  inv : Inv g n s
  zero : s.pre[0]? = some 0
  fin : ∀ i, i < s.pre.length → Fin g s i
section
variable {g : Nat → List Nat} {n : Nat} {s : VSt} (h : Nums g n s)
include h
theorem Nums.reach {v : Nat} : v ∈ s.pre ↔ Way g 0 v := by
  constructor
  · intro hv
    obtain ⟨j, hj, rfl⟩ := List.getElem_of_mem hv
    clear hv
    induction j using Nat.strongRecOn with
    | _ j ih =>
      by_cases h0 : j = 0
      · subst h0
        have := h.zero
        rw [List.getElem?_eq_getElem hj] at this
        rw [Option.some.inj this]; exact .refl 0
      · obtain ⟨h1, _, u, v, h3, h4, h5⟩ := h.inv.par j _ (by omega) (List.getElem?_eq_getElem (by rw [h.inv.len]; exact hj))
        have hq := (List.getElem?_eq_some_iff.1 h3).1
        have h6 := ih _ h1 hq
        rw [List.getElem?_eq_getElem hq] at h3
        rw [List.getElem?_eq_getElem hj] at h4
        rw [Option.some.inj h3] at h6
        rw [Option.some.inj h4]
        exact h6.step h5
  · intro hv
    induction hv with
    | refl => exact List.mem_of_getElem? h.zero
    | step _ hc ih =>
      obtain ⟨i, hi, rfl⟩ := List.getElem_of_mem ih
      obtain ⟨j, hj, _⟩ := h.fin i hi _ (List.getElem?_eq_getElem hi) _ hc
      exact List.mem_of_getElem? hj
theorem Nums.way {i a j b : Nat} (ha : s.pre[i]? = some a) (hb : s.pre[j]? = some b) : RA (En g s) i j ↔ WayO g (a : Int) b := by
  constructor
  · intro hr
    induction hr generalizing b with
    | root h0 =>
      have hz := h.zero
      rw [hz] at hb
      obtain rfl := Option.some.inj hb
      exact .zero (fun e => h0 (pre_inj h.inv.nd ha (by rw [hz]; congr 1; omega)))
    | @step t u hr he hne ih =>
      obtain ⟨x, y, h1, h2, h3⟩ := he
      rw [hb] at h2
      obtain rfl := Option.some.inj h2
      exact .step (ih h1) h3 (fun e => hne (pre_inj h.inv.nd hb (by rw [ha]; congr 1; omega)))
  · intro hw
    have key : ∃ j', s.pre[j']? = some b ∧ RA (En g s) i j' := by
      clear hb
      induction hw with
      | zero h0 => exact ⟨0, h.zero, .root (fun e => h0 (by subst e; have hz := h.zero; rw [ha] at hz; have := Option.some.inj hz; omega))⟩
      | @step x c hw hc hne ih =>
        obtain ⟨t, ht, hr⟩ := ih
        have htl := (List.getElem?_eq_some_iff.1 ht).1
        obtain ⟨u, hu, _⟩ := h.fin t htl x ht c hc
        exact ⟨u, hu, .step hr ⟨x, c, ht, hu, hc⟩ (fun e => hne (by subst e; rw [hu] at ha; have := Option.some.inj ha; omega))⟩
    obtain ⟨j', h1, h2⟩ := key
    obtain rfl := pre_inj h.inv.nd hb h1
    exact h2
theorem Nums.ov {i a j b : Nat} (ha : s.pre[i]? = some a) (hb : s.pre[j]? = some b) : ¬ RA (En g s) i j ↔ Ov g a b := by
  rw [h.way ha hb]
  exact ⟨fun hn => ⟨(h.reach).1 (List.mem_of_getElem? ha), (h.reach).1 (List.mem_of_getElem? hb), hn⟩, fun ho => ho.2.2⟩
theorem Nums.dfs : Dfs s.pre.length (En g s) (Abv s.pp) (fun j => s.pp.getD j 0) := vis_dfs h.inv h.fin
end
theorem nums0 (g : Nat → List Nat) (n : Nat) (hn : 0 < n) (hg : ∀ i, ∀ w ∈ g i, w < n) : Nums g n (vis0 g n) := by
  obtain ⟨h1, h2, h3⟩ := vis0_right g n hn hg
  exact ⟨h1, h2, h3⟩
/-- The nearest ones, as places. -/
structure Ups (g : Nat → List Nat) (n : Nat) (s : List Nat) (up : List Int) : Prop where
  len : up.length = n
  un : ∀ v, v < n → (∀ j, 0 < j → s[j]? ≠ some v) → up[v]? = some (-1)
  near : ∀ j v, 0 < j → s[j]? = some v → ∃ d u : Nat, d < j ∧ s[d]? = some u ∧ up[v]? = some (u : Int) ∧ ∀ a, (Ov g a v ↔ a = v ∨ Ov g a u)
theorem Second.ups {g : Nat → List Nat} {n : Nat} {s : VSt} (h : Nums g n s) {sd : Nat → Nat} {up : List Int} {i : Nat} (hs : Second s.pre (En g s) (Abv s.pp) sd n i up) (hi : s.pre.length ≤ i) : Ups g n s.pre up := by
  refine ⟨hs.lup, hs.un, fun j v h0 hv => ?_⟩
  have hj := (List.getElem?_eq_some_iff.1 hv).1
  obtain ⟨d, u, h1, h2, h3, h4⟩ := hs.near j v h0 (by omega) hv
  refine ⟨d, u, h3, h1, h2, fun a => ?_⟩
  by_cases ha : a ∈ s.pre
  · obtain ⟨k, hk, rfl⟩ := List.getElem_of_mem ha
    have hk' := List.getElem?_eq_getElem hk
    rw [← h.ov hk' hv, ← h.ov hk' h1, h4 k]
    refine or_congr ⟨fun e => ?_, fun e => ?_⟩ Iff.rfl
    · subst e; rw [hk'] at hv; exact Option.some.inj hv
    · exact pre_inj h.inv.nd hk' (by rw [e]; exact hv)
  · have hna : ¬ Way g 0 a := fun e => ha (h.reach.2 e)
    exact ⟨fun e => absurd e.1 hna, fun e => e.elim (fun e => absurd (by rw [e]; exact h.reach.1 (List.mem_of_getElem? hv)) hna) (fun e => absurd e.1 hna)⟩
/-- While the depths of the first k are told. -/
structure Deeps (n : Nat) (s : List Nat) (up : List Int) (k : Nat) (f : Nat → Nat) (deep : List Int) : Prop where
  len : deep.length = n
  un : ∀ v, v < n → (∀ j, j < k → s[j]? ≠ some v) → deep[v]? = some (-1)
  zero : f 0 = 0
  at_ : ∀ j v, j < k → s[j]? = some v → deep[v]? = some (f j : Int)
  par : ∀ j v, 0 < j → j < k → s[j]? = some v → ∃ d u : Nat, d < j ∧ s[d]? = some u ∧ up[v]? = some (u : Int) ∧ f j = f d + 1
theorem Deeps.start (n : Nat) (s : List Nat) (up : List Int) : Deeps n s up 0 (fun _ => 0) (List.replicate n (-1)) :=
  ⟨by simp, fun v hv _ => by simp [hv], rfl, fun j v h => by omega, fun j v _ h => by omega⟩
theorem Deeps.next {n k v d u : Nat} {s : List Nat} {up deep : List Int} {f : Nat → Nat} (h : Deeps n s up k f deep) (hnd : s.Nodup) (h0 : 0 < k) (hv : s[k]? = some v) (hvn : v < n) (hd : d < k) (hu : s[d]? = some u) (hup : up[v]? = some (u : Int)) :
    Deeps n s up (k + 1) (fun x => if x = k then f d + 1 else f x) (deep.set v ((f d + 1 : Nat) : Int)) := by
  have hvl : v < deep.length := by rw [h.len]; exact hvn
  have hne : ∀ j x, s[j]? = some x → j ≠ k → v ≠ x := fun j x hx hjk e => hjk (by subst e; exact pre_inj hnd hx hv)
  refine ⟨by simp [h.len], fun x hx hn => ?_, by simp [h.zero]; omega, fun j x hj hx => ?_, fun j x hj0 hj hx => ?_⟩
  · rw [List.getElem?_set_ne (fun e => hn k (by omega) (by rw [hv, e]))]
    exact h.un x hx (fun j hj => hn j (by omega))
  · by_cases e : j = k
    · subst e
      rw [hv] at hx
      obtain rfl := Option.some.inj hx
      rw [List.getElem?_set_self hvl]; simp
    · rw [List.getElem?_set_ne (hne j x hx e), h.at_ j x (by omega) hx]
      simp [e]
  · by_cases e : j = k
    · subst e
      rw [hv] at hx
      obtain rfl := Option.some.inj hx
      refine ⟨d, u, hd, hu, hup, ?_⟩
      simp; omega
    · obtain ⟨d', u', h1, h2, h3, h4⟩ := h.par j x hj0 (by omega) hx
      refine ⟨d', u', h1, h2, h3, ?_⟩
      rw [if_neg e, if_neg (by omega)]
      exact h4
theorem Deeps.first {n v : Nat} {s : List Nat} {up deep : List Int} {f : Nat → Nat} (h : Deeps n s up 0 f deep) (hv : s[0]? = some v) (hvn : v < n) : Deeps n s up 1 f (deep.set v 0) := by
  have hvl : v < deep.length := by rw [h.len]; exact hvn
  refine ⟨by simp [h.len], fun x hx hn => ?_, h.zero, fun j x hj hx => ?_, fun j x hj0 hj hx => by omega⟩
  · rw [List.getElem?_set_ne (fun e => hn 0 (by omega) (by rw [hv, e]))]
    exact h.un x hx (fun j hj => by omega)
  · obtain rfl : j = 0 := by omega
    rw [hv] at hx
    obtain rfl := Option.some.inj hx
    rw [List.getElem?_set_self hvl, h.zero]; rfl
theorem Deeps.le {n k : Nat} {s : List Nat} {up deep : List Int} {f : Nat → Nat} (h : Deeps n s up k f deep) : ∀ j, j < k → j < s.length → f j ≤ j := by
  intro j
  induction j using Nat.strongRecOn with
  | _ j ih =>
    intro hj hs
    by_cases h0 : j = 0
    · subst h0; rw [h.zero]; exact Nat.le_refl _
    · obtain ⟨d, _, h1, _, _, h2⟩ := h.par j _ (by omega) hj (List.getElem?_eq_getElem hs)
      have := ih d h1 (by omega) (by omega)
      omega
/-- The tree: the nearest ones and the depths. -/
structure DTree (g : Nat → List Nat) (n : Nat) (up deep : List Int) : Prop where
  lu : up.length = n
  ld : deep.length = n
  lt : ∀ v, Way g 0 v → v < n
  un : ∀ v, v < n → ¬ Way g 0 v → up[v]? = some (-1) ∧ deep[v]? = some (-1)
  zero : up[0]? = some (-1) ∧ deep[0]? = some 0
  near : ∀ v, Way g 0 v → v ≠ 0 → ∃ u d : Nat, Way g 0 u ∧ up[v]? = some (u : Int) ∧ deep[v]? = some ((d + 1 : Nat) : Int) ∧ deep[u]? = some (d : Int) ∧ ∀ a, (Ov g a v ↔ a = v ∨ Ov g a u)
theorem Deeps.tree {g : Nat → List Nat} {n : Nat} {s : VSt} (h : Nums g n s) {up deep : List Int} {f : Nat → Nat} {k : Nat} (hu : Ups g n s.pre up) (hd : Deeps n s.pre up k f deep) (hk : s.pre.length ≤ k) : DTree g n up deep := by
  have lt : ∀ v, Way g 0 v → v < n := fun v hv => h.inv.lt v (h.reach.2 hv)
  have hz0 : s.pre.length > 0 := (List.getElem?_eq_some_iff.1 h.zero).1
  refine ⟨hu.len, hd.len, lt, fun v hv hn => ⟨hu.un v hv (fun j _ e => hn (h.reach.1 (List.mem_of_getElem? e))), hd.un v hv (fun j _ e => hn (h.reach.1 (List.mem_of_getElem? e)))⟩, ⟨hu.un 0 (lt 0 (.refl 0)) (fun j h0 e => by have := pre_inj h.inv.nd h.zero e; omega), ?_⟩, fun v hv hv0 => ?_⟩
  · have := hd.at_ 0 0 (by omega) h.zero
    rw [this, hd.zero]; rfl
  · obtain ⟨j, hj, hje⟩ := List.getElem_of_mem (h.reach.2 hv)
    have hjv : s.pre[j]? = some v := by rw [List.getElem?_eq_getElem hj, hje]
    have hj0 : 0 < j := Nat.pos_of_ne_zero (fun e => hv0 (by subst e; rw [h.zero] at hjv; exact (Option.some.inj hjv).symm))
    obtain ⟨d, u, h1, h2, h3, h4⟩ := hu.near j v hj0 hjv
    obtain ⟨d', u', k1, k2, k3, k4⟩ := hd.par j v hj0 (by omega) hjv
    rw [h3] at k3
    have e : u = u' := by have := Option.some.inj k3; omega
    subst e
    obtain rfl := pre_inj h.inv.nd h2 k2
    exact ⟨u, f d, h.reach.1 (List.mem_of_getElem? h2), h3, by rw [hd.at_ j v (by omega) hjv, k4], hd.at_ d u (by omega) h2, h4⟩
section
variable {g : Nat → List Nat} {n : Nat} {up deep : List Int} (h : DTree g n up deep)
include h
theorem DTree.deep_of {v : Nat} (hv : Way g 0 v) : ∃ d : Nat, deep[v]? = some (d : Int) ∧ (d = 0 ↔ v = 0) := by
  by_cases e : v = 0
  · subst e; exact ⟨0, h.zero.2, by simp⟩
  · obtain ⟨u, d, _, _, h1, _⟩ := h.near v hv e
    exact ⟨d + 1, h1, by simp [e]⟩
/-- One over another one is no deeper; as deep, it is the same. -/
theorem DTree.le : ∀ (d : Nat) (a b : Nat) (c : Int), Ov g a b → deep[b]? = some (d : Int) → deep[a]? = some c → c ≤ d ∧ (c = d → a = b)
  | d, a, b, c, ho, hd, hc => by
    by_cases hb : b = 0
    · subst hb
      have ha : a = 0 := Classical.byContradiction fun hn => ho.2.2 (.zero (by omega))
      subst ha
      rw [hd] at hc
      exact ⟨by have := Option.some.inj hc; omega, fun _ => rfl⟩
    · obtain ⟨u, d', h1, h2, h3, h4, h5⟩ := h.near b ho.2.1 hb
      rw [hd] at h3
      have e := Option.some.inj h3
      rcases (h5 a).1 ho with rfl | hu
      · rw [hd] at hc
        exact ⟨by have := Option.some.inj hc; omega, fun _ => rfl⟩
      · have := DTree.le d' a u c hu h4 hc
        exact ⟨by omega, fun e => by omega⟩
termination_by d => d
decreasing_by omega
end
end LT
end Go.Proofs.Ytnkbbjeepdjamaa
