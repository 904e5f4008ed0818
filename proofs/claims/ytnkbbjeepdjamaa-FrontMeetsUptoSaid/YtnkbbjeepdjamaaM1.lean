/- Dominators, plain: numbers depth first; half-dominators; which places each way goes through. No condition. -/
namespace Go.Proofs.Ytnkbbjeepdjamaa
namespace LT
/-- Numbers depth first: A tells who is above whom in the tree, p the parent. -/
structure Dfs (N : Nat) (E : Nat → Nat → Prop) (A : Nat → Nat → Prop) (p : Nat → Nat) : Prop where
  le : ∀ i j, A i j → i ≤ j ∧ j < N
  refl : ∀ i, i < N → A i i
  trans : ∀ i j k, A i j → A j k → A i k
  int : ∀ a b c, A a c → a ≤ b → b ≤ c → A a b
  par : ∀ j, 0 < j → j < N → p j < j ∧ A (p j) j
  up : ∀ i j, A i j → i ≠ j → A i (p j)
  ed : ∀ i j, E i j → i < N ∧ j < N
  fwd : ∀ i j, E i j → i < j → A i j
  tree : ∀ j, 0 < j → j < N → E (p j) j
/-- Reached from the first without going through a. -/
inductive RA (E : Nat → Nat → Prop) (a : Nat) : Nat → Prop
  | root : a ≠ 0 → RA E a 0
  | step {t u : Nat} : RA E a t → E t u → u ≠ a → RA E a u
/-- From x one comes to w over greater numbers. -/
inductive Up (E : Nat → Nat → Prop) (w : Nat) : Nat → Prop
  | base {x : Nat} : E x w → Up E w x
  | step {x y : Nat} : E x y → w < y → Up E w y → Up E w x
def IsSd (E : Nat → Nat → Prop) (w s : Nat) : Prop := Up E w s ∧ ∀ x, Up E w x → s ≤ x
theorem ra_self {E : Nat → Nat → Prop} {a : Nat} (hr : RA E a a) : False := by
  cases hr with
  | root h => exact h rfl
  | step _ _ h => exact h rfl
theorem ra_up {E : Nat → Nat → Prop} {a y x : Nat} (hu : Up E y x) (hr : RA E a x) (hy : a < y) : RA E a y := by
  induction hu with
  | base he => exact .step hr he (by omega)
  | step he hlt _ ih => exact ih (.step hr he (by omega))
/-- m has the least half-dominator of those between s and w (w, too). -/
def Arg (A : Nat → Nat → Prop) (sd : Nat → Nat) (s w m : Nat) : Prop := A s m ∧ s ≠ m ∧ A m w ∧ ∀ y, A s y → s ≠ y → A y w → sd m ≤ sd y
section
variable {N : Nat} {E A : Nat → Nat → Prop} {p : Nat → Nat} (h : Dfs N E A p)
include h
theorem ra_tree {a w : Nat} (hw : w < N) (ha : ¬ A a w) : RA E a w := by
  induction w using Nat.strongRecOn with
  | _ w ih =>
    by_cases h0 : w = 0
    · subst h0
      exact .root (fun e => ha (by subst e; exact h.refl _ hw))
    · have hp := h.par w (by omega) hw
      exact .step (ih (p w) hp.1 (by omega) (fun hc => ha (h.trans _ _ _ hc hp.2))) (h.tree w (by omega) hw) (fun e => ha (by subst e; exact h.refl _ hw))
theorem ra_down {a y w : Nat} (hy : a < y) (hr : RA E a y) (ha : A y w) : RA E a w := by
  induction w using Nat.strongRecOn with
  | _ w ih =>
    by_cases hne : y = w
    · subst hne; exact hr
    · have h1 := h.le _ _ ha
      have hp := h.par w (by omega) h1.2
      exact .step (ih (p w) hp.1 (h.up _ _ ha hne)) (h.tree w (by omega) h1.2) (by omega)
/-- Over greater numbers one comes from above. -/
theorem up_anc {w x : Nat} (hu : Up E w x) (hx : x ≤ w) : A x w := by
  cases hu with
  | base he =>
    rcases Nat.lt_or_ge x w with hl | hl
    · exact h.fwd _ _ he hl
    · obtain rfl : x = w := by omega
      exact h.refl _ (h.ed _ _ he).1
  | step he hlt _ => exact h.int _ _ _ (h.fwd _ _ he (by omega)) hx (by omega)
theorem sd_lt {w s : Nat} (h0 : 0 < w) (hw : w < N) (hs : IsSd E w s) : s < w ∧ A s w := by
  have h1 := hs.2 _ (.base (h.tree w h0 hw))
  have h2 := h.par w h0 hw
  exact ⟨by omega, up_anc h hs.1 (by omega)⟩
/-- A half-dominator comes from a way straight from ahead, or from one of those above who is ahead. -/
theorem up_cases {w x : Nat} (hu : Up E w x) : E x w ∨ ∃ u v, w < u ∧ A u v ∧ E v w ∧ Up E u x := by
  induction hu with
  | base he => exact .inl he
  | @step x y he hlt hu' ih =>
    have hy := h.ed _ _ he
    rcases ih with ih | ⟨u, v, h1, h2, h3, h4⟩
    · exact .inr ⟨y, y, hlt, h.refl _ hy.2, ih, .base he⟩
    · by_cases huy : u < y
      · exact .inr ⟨u, v, h1, h2, h3, .step he huy h4⟩
      · exact .inr ⟨y, v, hlt, h.trans _ _ _ (up_anc h h4 (by omega)) h2, h3, .base he⟩
theorem up_walk {w u v : Nat} (hwu : w < u) (ha : A u v) (he : E v w) {x : Nat} (hu : Up E u x) : Up E w x := by
  have key : ∀ v, A u v → Up E w v → Up E w u := by
    intro v
    induction v using Nat.strongRecOn with
    | _ v ih =>
      intro ha hup
      by_cases hne : u = v
      · subst hne; exact hup
      · have h1 := h.le _ _ ha
        have hp := h.par v (by omega) h1.2
        exact ih (p v) hp.1 (h.up _ _ ha hne) (.step (h.tree v (by omega) h1.2) (by omega) hup)
  have hw := key v ha (.base he)
  induction hu with
  | base he => exact .step he hwu hw
  | step he hlt _ ih => exact .step he (by omega) ih
/-- A way that avoids a comes to the way between a and w from ahead of a. -/
theorem enters {a w : Nat} {sd : Nat → Nat} (hsd : ∀ j, 0 < j → j < N → IsSd E j (sd j)) {t : Nat} (hr : RA E a t) :
    t < a ∨ (∃ x, x < a ∧ a < t ∧ ¬ (A a t ∧ A t w) ∧ ∀ y, A a y → A y w → y ≠ a → Up E y t → y < t → Up E y x) ∨ ∃ y, A a y ∧ A y w ∧ y ≠ a ∧ sd y < a := by
  induction hr with
  | root h0 => exact .inl (by omega)
  | @step t u hr he hne ih =>
    have hed := h.ed _ _ he
    have fin : ∀ x, x < a → A a u → A u w → Up E u x → ∃ y, A a y ∧ A y w ∧ y ≠ a ∧ sd y < a := fun x hx h1 h2 hu =>
      ⟨u, h1, h2, hne, by have h3 := h.le _ _ h1; have := (hsd u (by omega) hed.2).2 x hu; omega⟩
    rcases ih with ih | ⟨x, hx, hat, hon, ih⟩ | ih
    · by_cases hu : u < a
      · exact .inl hu
      · by_cases hon : A a u ∧ A u w
        · exact .inr (.inr (fin t ih hon.1 hon.2 (.base he)))
        · exact .inr (.inl ⟨t, ih, by omega, hon, fun y _ _ _ hy hlt => .step he hlt hy⟩)
    · by_cases hu : u < a
      · exact .inl hu
      · have behind : ∀ y, A a y → A y w → y ≠ a → y ≤ u → y < t := by
          intro y h1 h2 h3 hyu
          apply Classical.byContradiction
          intro hlt
          by_cases hty : t = y
          · subst hty; exact hon ⟨h1, h2⟩
          · have hty' : A t y := h.int _ _ _ (h.fwd _ _ he (by omega)) (by omega) hyu
            exact hon ⟨h.int _ _ _ h1 (by omega) (by omega), h.trans _ _ _ hty' h2⟩
        by_cases hou : A a u ∧ A u w
        · exact .inr (.inr (fin x hx hou.1 hou.2 (ih u hou.1 hou.2 hne (.base he) (behind u hou.1 hou.2 hne (Nat.le_refl _)))))
        · exact .inr (.inl ⟨x, hx, by omega, hou, fun y h1 h2 h3 hy hlt => ih y h1 h2 h3 (.step he hlt hy) (behind y h1 h2 h3 (by omega))⟩)
    · exact .inr (.inr ih)
/-- Who is over whom, by half-dominators. -/
theorem dom_iff {a w : Nat} {sd : Nat → Nat} (hsd : ∀ j, 0 < j → j < N → IsSd E j (sd j)) (hw : w < N) :
    ¬ RA E a w ↔ A a w ∧ ∀ y, A a y → A y w → y ≠ a → a ≤ sd y := by
  constructor
  · intro hn
    have hanc : A a w := Classical.byContradiction fun hc => hn (ra_tree h hw hc)
    refine ⟨hanc, fun y h1 h2 h3 => Classical.byContradiction fun hc => hn ?_⟩
    have a1 := h.le _ _ h1
    have hs := hsd y (by omega) a1.2
    have hsy := sd_lt h (by omega) a1.2 hs
    exact ra_down h (by omega) (ra_up hs.1 (ra_tree h (by omega) (fun hq => by have := h.le _ _ hq; omega)) (by omega)) h2
  · rintro ⟨hanc, hall⟩ hr
    by_cases hne : a = w
    · subst hne; exact ra_self hr
    · have a1 := h.le _ _ hanc
      rcases enters (w := w) h hsd hr with h1 | ⟨x, _, _, h1, _⟩ | ⟨y, h1, h2, h3, h4⟩
      · omega
      · exact h1 ⟨hanc, h.refl _ hw⟩
      · have := hall y h1 h2 h3; omega
theorem anc_chain {a b w : Nat} (ha : A a w) (hb : A b w) (hab : a ≤ b) : A a b := h.int _ _ _ ha hab (h.le _ _ hb).1
end
end LT
end Go.Proofs.Ytnkbbjeepdjamaa
/- Numbers depth first, with parents, told by a plain function: they are as DTree's law asks. No condition. -/
namespace Go.Proofs.Ytnkbbjeepdjamaa
namespace LT
/-- What a visit has done: the places met, the numbers of their parents. -/
structure VSt where
  pre : List Nat
  pp : List Nat
def VSt.push (s : VSt) (v q : Nat) : VSt := ⟨s.pre ++ [v], s.pp ++ [q]⟩
def vis (g : Nat → List Nat) : Nat → Nat → Nat → VSt → VSt
  | 0, _, _, s => s
  | k + 1, v, q, s => (g v).foldl (fun a w => if w ∈ a.pre then a else vis g k w s.pre.length a) (s.push v q)
def visL (g : Nat → List Nat) (k i : Nat) (l : List Nat) (s : VSt) : VSt := l.foldl (fun a w => if w ∈ a.pre then a else vis g k w i a) s
theorem vis_succ (g : Nat → List Nat) (k v q : Nat) (s : VSt) : vis g (k + 1) v q s = visL g k s.pre.length (g v) (s.push v q) := by rw [vis]; rfl
theorem visL_nil (g : Nat → List Nat) (k i : Nat) (s : VSt) : visL g k i [] s = s := rfl
theorem visL_cons (g : Nat → List Nat) (k i w : Nat) (l : List Nat) (s : VSt) : visL g k i (w :: l) s = visL g k i l (if w ∈ s.pre then s else vis g k w i s) := rfl
theorem visL_snoc (g : Nat → List Nat) (k i w : Nat) (l : List Nat) (s : VSt) : visL g k i (l ++ [w]) s = if w ∈ (visL g k i l s).pre then visL g k i l s else vis g k w i (visL g k i l s) := by
  unfold visL; rw [List.foldl_append]; rfl
/-- Who is above whom, by the parents' numbers. -/
inductive Abv (pp : List Nat) (i : Nat) : Nat → Prop
  | refl : i < pp.length → Abv pp i i
  | step {j q : Nat} : 0 < j → pp[j]? = some q → Abv pp i q → Abv pp i j
theorem getElem?_app {l m : List Nat} {j q : Nat} (h : l[j]? = some q) : (l ++ m)[j]? = some q := by
  have := (List.getElem?_eq_some_iff.1 h).1
  rw [List.getElem?_append_left this]; exact h
theorem Abv.mono {pp : List Nat} {i j : Nat} (h : Abv pp i j) (m : List Nat) : Abv (pp ++ m) i j := by
  induction h with
  | refl hi => exact .refl (by simp; omega)
  | step h0 hq _ ih => exact .step h0 (getElem?_app hq) ih
theorem Abv.trans {pp : List Nat} {i j k : Nat} (h : Abv pp i j) (hk : Abv pp j k) : Abv pp i k := by
  induction hk with
  | refl => exact h
  | step h0 hq _ ih => exact .step h0 hq ih
theorem Abv.lt {pp : List Nat} {i j : Nat} (h : Abv pp i j) : j < pp.length := by
  cases h with
  | refl hi => exact hi
  | step _ hq _ => exact (List.getElem?_eq_some_iff.1 hq).1
/-- What stands of the numbers at any time. -/
structure Inv (g : Nat → List Nat) (n : Nat) (s : VSt) : Prop where
  len : s.pp.length = s.pre.length
  nd : s.pre.Nodup
  lt : ∀ v ∈ s.pre, v < n
  par : ∀ j q, 0 < j → s.pp[j]? = some q → q < j ∧ Abv s.pp q (j - 1) ∧ ∃ u v, s.pre[q]? = some u ∧ s.pre[j]? = some v ∧ v ∈ g u
theorem Inv.push {g : Nat → List Nat} {n : Nat} {s : VSt} (h : Inv g n s) {v q : Nat} (hv : v < n) (hn : v ∉ s.pre) (hq : 0 < s.pre.length → Abv s.pp q (s.pre.length - 1) ∧ q < s.pre.length ∧ ∃ u, s.pre[q]? = some u ∧ v ∈ g u) :
    Inv g n (s.push v q) := by
  refine ⟨by simp [VSt.push, h.len], ?_, ?_, ?_⟩
  · refine List.nodup_append.2 ⟨h.nd, by simp, fun x hx y hy e => ?_⟩
    simp at hy; subst hy; subst e; exact hn hx
  · intro x hx
    rcases List.mem_append.1 hx with hx | hx
    · exact h.lt x hx
    · simp at hx; omega
  · intro j q' h0 hj
    simp only [VSt.push] at hj ⊢
    rcases Nat.lt_or_ge j s.pp.length with hl | hl
    · rw [List.getElem?_append_left hl] at hj
      obtain ⟨h1, h2, u, w, h3, h4, h5⟩ := h.par j q' h0 hj
      exact ⟨h1, h2.mono _, u, w, getElem?_app h3, getElem?_app h4, h5⟩
    · have hjl := (List.getElem?_eq_some_iff.1 hj).1
      simp at hjl
      obtain rfl : j = s.pp.length := by omega
      rw [List.getElem?_append_right (Nat.le_refl _), Nat.sub_self] at hj
      obtain rfl : q = q' := by simpa using hj
      have hlen := h.len
      obtain ⟨h1, h2, u, h3, h4⟩ := hq (by omega)
      rw [hlen]
      exact ⟨h2, h1.mono _, u, v, getElem?_app h3, by simp, h4⟩
/-- A number whose places behind are all met; those met later are below it. -/
def Fin (g : Nat → List Nat) (s : VSt) (i : Nat) : Prop := ∀ u, s.pre[i]? = some u → ∀ w ∈ g u, ∃ j, s.pre[j]? = some w ∧ (i < j → Abv s.pp i j)
/-- One state grows into another one. -/
def Ext (s s' : VSt) : Prop := ∃ l m, s'.pre = s.pre ++ l ∧ s'.pp = s.pp ++ m
theorem Ext.refl (s : VSt) : Ext s s := ⟨[], [], by simp, by simp⟩
theorem Ext.trans {a b c : VSt} (h : Ext a b) (k : Ext b c) : Ext a c := by
  obtain ⟨l, m, h1, h2⟩ := h
  obtain ⟨l', m', k1, k2⟩ := k
  exact ⟨l ++ l', m ++ m', by rw [k1, h1, List.append_assoc], by rw [k2, h2, List.append_assoc]⟩
theorem Ext.push (s : VSt) (v q : Nat) : Ext s (s.push v q) := ⟨[v], [q], rfl, rfl⟩
theorem Ext.len {a b : VSt} (h : Ext a b) : a.pre.length ≤ b.pre.length := by
  obtain ⟨l, m, h1, _⟩ := h; rw [h1]; simp
theorem Ext.pre {a b : VSt} (h : Ext a b) {j v : Nat} (hj : a.pre[j]? = some v) : b.pre[j]? = some v := by
  obtain ⟨l, m, h1, _⟩ := h; rw [h1]; exact getElem?_app hj
theorem Ext.pp {a b : VSt} (h : Ext a b) {j v : Nat} (hj : a.pp[j]? = some v) : b.pp[j]? = some v := by
  obtain ⟨l, m, _, h1⟩ := h; rw [h1]; exact getElem?_app hj
theorem Ext.abv {a b : VSt} (h : Ext a b) {i j : Nat} (hj : Abv a.pp i j) : Abv b.pp i j := by
  obtain ⟨l, m, _, h1⟩ := h; rw [h1]; exact hj.mono _
theorem Ext.mem {a b : VSt} (h : Ext a b) {v : Nat} (hj : v ∈ a.pre) : v ∈ b.pre := by
  obtain ⟨l, m, h1, _⟩ := h; rw [h1]; exact List.mem_append_left _ hj
theorem Fin.ext {g : Nat → List Nat} {a b : VSt} {i : Nat} (h : Fin g a i) (he : Ext a b) (hi : i < a.pre.length) : Fin g b i := by
  intro u hu w hw
  have hu' := he.pre (List.getElem?_eq_getElem hi)
  rw [hu'] at hu
  obtain ⟨j, h1, h2⟩ := h _ (List.getElem?_eq_getElem hi) w (by simp at hu; rw [hu]; exact hw)
  exact ⟨j, he.pre h1, fun hl => he.abv (h2 hl)⟩
/-- A visit with enough fuel. -/
structure Vis (g : Nat → List Nat) (n : Nat) (s s' : VSt) : Prop where
  inv : Inv g n s'
  ext : Ext s s'
  fin : ∀ i, s.pre.length ≤ i → i < s'.pre.length → Fin g s' i
theorem room : ∀ {n : Nat} {l : List Nat}, l.Nodup → (∀ v ∈ l, v < n) → l.length ≤ n
  | 0, l, _, h => by
    cases l with
    | nil => exact Nat.le_refl _
    | cons a l => exact absurd (h a List.mem_cons_self) (by omega)
  | n + 1, l, hnd, h => by
    by_cases hm : n ∈ l
    · have h1 := List.length_erase_of_mem hm
      have h2 := room (n := n) (hnd.erase n) (fun v hv => by
        have h3 := (hnd.mem_erase_iff).1 hv
        have := h v h3.2
        omega)
      omega
    · have := room (n := n) hnd (fun v hv => by
        have := h v hv
        have : v ≠ n := fun e => hm (e ▸ hv)
        omega)
      omega
theorem vis_right (g : Nat → List Nat) (n : Nat) (hg : ∀ i, ∀ w ∈ g i, w < n) : ∀ (k v q : Nat) (s : VSt), Inv g n s → v < n → v ∉ s.pre → n ≤ s.pre.length + k →
    (0 < s.pre.length → Abv s.pp q (s.pre.length - 1) ∧ q < s.pre.length ∧ ∃ u, s.pre[q]? = some u ∧ v ∈ g u) →
    Vis g n (s.push v q) (vis g k v q s) ∧ Fin g (vis g k v q s) s.pre.length ∧ ∀ j, s.pre.length ≤ j → j < (vis g k v q s).pre.length → Abv (vis g k v q s).pp s.pre.length j
  | 0, v, q, s, hi, hv, hn, hk, hq => by
    have h1 := room (hi.push hv hn hq).nd (hi.push hv hn hq).lt
    simp [VSt.push] at h1
    omega
  | k + 1, v, q, s, hi, hv, hn, hk, hq => by
    have hp := hi.push hv hn hq
    have hi0 : (s.push v q).pre[s.pre.length]? = some v := by simp [VSt.push]
    have key : ∀ (l : List Nat) (a : VSt), (∀ w ∈ l, w ∈ g v) → Inv g n a → Ext (s.push v q) a → (∀ j, s.pre.length ≤ j → j < a.pre.length → Abv a.pp s.pre.length j) →
        Vis g n a (visL g k s.pre.length l a) ∧ (∀ j, s.pre.length ≤ j → j < (visL g k s.pre.length l a).pre.length → Abv (visL g k s.pre.length l a).pp s.pre.length j) ∧ ∀ w ∈ l, w ∈ (visL g k s.pre.length l a).pre := by
      intro l
      induction l with
      | nil => intro a _ ha _ hb; exact ⟨⟨ha, Ext.refl a, fun i h1 h2 => by rw [visL_nil] at h2; omega⟩, hb, by simp⟩
      | cons w l ih =>
        intro a hl ha he hb
        rw [visL_cons]
        have hl' : ∀ x ∈ l, x ∈ g v := fun x hx => hl x (List.mem_cons_of_mem _ hx)
        by_cases hw : w ∈ a.pre
        · rw [if_pos hw]
          obtain ⟨h1, h2, h3⟩ := ih a hl' ha he hb
          refine ⟨h1, h2, fun x hx => ?_⟩
          rcases List.mem_cons.1 hx with rfl | hx
          · exact h1.ext.mem hw
          · exact h3 x hx
        · rw [if_neg hw]
          have hlen := he.len
          have hl1 : (s.push v q).pre.length = s.pre.length + 1 := by simp [VSt.push]
          obtain ⟨d1, d2, d3⟩ := vis_right g n hg k w s.pre.length a ha (hg v w (hl w List.mem_cons_self)) hw (by omega) (fun _ => ⟨hb _ (by omega) (by omega), by omega, v, he.pre hi0, hl w List.mem_cons_self⟩)
          have hea : Ext a (vis g k w s.pre.length a) := (Ext.push a w _).trans d1.ext
          have hea1 := d1.ext.len
          have hl2 : (a.push w s.pre.length).pre.length = a.pre.length + 1 := by simp [VSt.push]
          have hst : Abv (vis g k w s.pre.length a).pp s.pre.length a.pre.length := by
            refine .step (by omega) (q := s.pre.length) (d1.ext.pp ?_) ((hea.abv (hb _ (Nat.le_refl _) (by omega))))
            simp [VSt.push, ← ha.len]
          obtain ⟨h1, h2, h3⟩ := ih (vis g k w s.pre.length a) hl' d1.inv (he.trans hea) (fun j hj1 hj2 => by
            rcases Nat.lt_or_ge j a.pre.length with hja | hja
            · exact hea.abv (hb j hj1 hja)
            · exact hst.trans (d3 j hja hj2))
          refine ⟨⟨h1.inv, hea.trans h1.ext, fun i hi1 hi2 => ?_⟩, h2, fun x hx => ?_⟩
          · rcases Nat.lt_or_ge i (vis g k w s.pre.length a).pre.length with hl3 | hl3
            · rcases Nat.lt_or_ge a.pre.length i with hl4 | hl4
              · exact (d1.fin i (by omega) hl3).ext h1.ext hl3
              · obtain rfl : i = a.pre.length := by omega
                exact d2.ext h1.ext hl3
            · exact h1.fin i hl3 hi2
          · rcases List.mem_cons.1 hx with rfl | hx
            · exact h1.ext.mem (d1.ext.mem (by simp [VSt.push]))
            · exact h3 x hx
    have hl1 : (s.push v q).pre.length = s.pre.length + 1 := by simp [VSt.push]
    have hpl : s.pre.length < (s.push v q).pp.length := by rw [hp.len]; omega
    obtain ⟨h1, h2, h3⟩ := key (g v) (s.push v q) (fun w hw => hw) hp (Ext.refl _) (fun j hj1 hj2 => by
      obtain rfl : j = s.pre.length := by omega
      exact .refl hpl)
    rw [vis_succ]
    refine ⟨h1, fun u hu w hw => ?_, h2⟩
    rw [h1.ext.pre hi0] at hu
    injection hu with hu
    subst hu
    obtain ⟨j, hj, hje⟩ := List.getElem_of_mem (h3 w hw)
    exact ⟨j, by rw [List.getElem?_eq_getElem hj, hje], fun hlt => h2 j (by omega) hj⟩
/-- The whole visit, from the first. -/
def vis0 (g : Nat → List Nat) (n : Nat) : VSt := vis g n 0 0 ⟨[], []⟩
theorem vis0_right (g : Nat → List Nat) (n : Nat) (hn : 0 < n) (hg : ∀ i, ∀ w ∈ g i, w < n) :
    Inv g n (vis0 g n) ∧ (vis0 g n).pre[0]? = some 0 ∧ ∀ i, i < (vis0 g n).pre.length → Fin g (vis0 g n) i := by
  have h0 : Inv g n ⟨[], []⟩ := ⟨rfl, by simp, by simp, by simp⟩
  obtain ⟨h1, h2, h3⟩ := vis_right g n hg n 0 0 ⟨[], []⟩ h0 hn (by simp) (by simp) (fun h => by simp at h)
  refine ⟨h1.inv, h1.ext.pre (by simp [VSt.push]), fun i hi => ?_⟩
  rcases Nat.eq_zero_or_pos i with rfl | h
  · exact h2
  · exact h1.fin i (by simp [VSt.push]; omega) hi
/-- The ways between numbers. -/
def En (g : Nat → List Nat) (s : VSt) (i j : Nat) : Prop := ∃ u v, s.pre[i]? = some u ∧ s.pre[j]? = some v ∧ v ∈ g u
theorem abv_int {g : Nat → List Nat} {n : Nat} {s : VSt} (h : Inv g n s) : ∀ (d a b c : Nat), c - b = d → Abv s.pp a c → a ≤ b → b ≤ c → Abv s.pp a b
  | 0, a, b, c, hd, hac, _, hb => by
    obtain rfl : b = c := by omega
    exact hac
  | d + 1, a, b, c, hd, hac, ha, hb => by
    cases hac with
    | refl => omega
    | step h0 hq hr =>
      obtain ⟨h1, h2, _⟩ := h.par _ _ h0 hq
      exact abv_int h d a b (c - 1) (by omega) (hr.trans h2) ha (by omega)
theorem abv_le {g : Nat → List Nat} {n : Nat} {s : VSt} (h : Inv g n s) {i j : Nat} (ha : Abv s.pp i j) : i ≤ j := by
  induction ha with
  | refl => exact Nat.le_refl _
  | step h0 hq _ ih => have := (h.par _ _ h0 hq).1; omega
/-- The numbers are as the law asks. -/
theorem vis_dfs {g : Nat → List Nat} {n : Nat} {s : VSt} (h : Inv g n s) (hf : ∀ i, i < s.pre.length → Fin g s i) :
    Dfs s.pre.length (En g s) (Abv s.pp) (fun j => s.pp.getD j 0) := by
  have hpp : ∀ j, j < s.pre.length → s.pp[j]? = some (s.pp.getD j 0) := fun j hj => by
    rw [List.getD_eq_getElem?_getD, List.getElem?_eq_getElem (by rw [h.len]; exact hj)]; rfl
  refine ⟨fun i j ha => ⟨abv_le h ha, by rw [← h.len]; exact ha.lt⟩, fun i hi => .refl (by rw [h.len]; exact hi), fun i j k => Abv.trans, fun a b c h1 h2 h3 => abv_int h _ a b c rfl h1 h2 h3, fun j h0 hj => ?_, fun i j ha hne => ?_, fun i j he => ?_, fun i j he hlt => ?_, fun j h0 hj => ?_⟩
  · have h1 := h.par j _ h0 (hpp j hj)
    exact ⟨h1.1, .step h0 (hpp j hj) (.refl (by rw [h.len]; omega))⟩
  · cases ha with
    | refl => exact absurd rfl hne
    | step h0 hq hr => rw [List.getD_eq_getElem?_getD, hq]; exact hr
  · obtain ⟨u, v, h1, h2, _⟩ := he
    exact ⟨(List.getElem?_eq_some_iff.1 h1).1, (List.getElem?_eq_some_iff.1 h2).1⟩
  · obtain ⟨u, v, h1, h2, h3⟩ := he
    obtain ⟨hi, _⟩ := List.getElem?_eq_some_iff.1 h1
    obtain ⟨k, k1, k2⟩ := hf i hi u h1 v h3
    obtain ⟨hj, hje⟩ := List.getElem?_eq_some_iff.1 h2
    obtain ⟨hk, hke⟩ := List.getElem?_eq_some_iff.1 k1
    obtain rfl : j = k := (List.getElem_inj h.nd).1 (hje.trans hke.symm)
    exact k2 hlt
  · obtain ⟨_, _, u, v, h1, h2, h3⟩ := h.par j _ h0 (hpp j hj)
    exact ⟨u, v, h1, h2, h3⟩
end LT
end Go.Proofs.Ytnkbbjeepdjamaa
/- Dominators, plain: the forest of those done, the least half-dominators, the nearest ones. No condition. -/
namespace Go.Proofs.Ytnkbbjeepdjamaa
namespace LT
/-- Half-dominators are there. -/
theorem sd_ex {N : Nat} {E A : Nat → Nat → Prop} {p : Nat → Nat} (h : Dfs N E A p) : ∃ sd : Nat → Nat, ∀ j, 0 < j → j < N → IsSd E j (sd j) := by
  have key : ∀ (w x : Nat), Up E w x → ∃ s, IsSd E w s := by
    intro w x
    induction x using Nat.strongRecOn with
    | _ x ih =>
      intro hu
      by_cases hc : ∃ y, y < x ∧ Up E w y
      · obtain ⟨y, h1, h2⟩ := hc; exact ih y h1 h2
      · exact ⟨x, hu, fun y hy => Nat.le_of_not_lt (fun hl => hc ⟨y, hl, hy⟩)⟩
  refine ⟨fun j => @dite Nat (0 < j ∧ j < N) (Classical.propDecidable _) (fun hj => (key j (p j) (.base (h.tree j hj.1 hj.2))).choose) (fun _ => 0), fun j h0 hj => ?_⟩
  show IsSd E j (@dite Nat (0 < j ∧ j < N) (Classical.propDecidable _) _ _)
  rw [dif_pos ⟨h0, hj⟩]
  exact (key j (p j) (.base (h.tree j h0 hj))).choose_spec
/-- w's nearest one is d. -/
def Near (E : Nat → Nat → Prop) (w d : Nat) : Prop := d < w ∧ ∀ a, (¬ RA E a w ↔ a = w ∨ ¬ RA E a d)
section
variable {N : Nat} {E A : Nat → Nat → Prop} {p : Nat → Nat} (h : Dfs N E A p) {sd : Nat → Nat} (hsd : ∀ j, 0 < j → j < N → IsSd E j (sd j))
include h hsd
theorem near_sd {w m : Nat} (h0 : 0 < w) (hw : w < N) (hm : Arg A sd (sd w) w m) (hc : ¬ sd m < sd w) : Near E w (sd w) := by
  obtain ⟨m1, m2, m3, m4⟩ := hm
  have hs := sd_lt h h0 hw (hsd w h0 hw)
  have hsN : sd w < N := by omega
  refine ⟨hs.1, fun a => ?_⟩
  constructor
  · intro hd
    by_cases haw : a = w
    · exact .inl haw
    · right
      have hdw := (dom_iff h hsd hw).1 hd
      have has : a ≤ sd w := hdw.2 w hdw.1 (h.refl _ hw) (fun e => haw e.symm)
      exact (dom_iff h hsd hsN).2 ⟨anc_chain h hdw.1 hs.2 has, fun y y1 y2 y3 => hdw.2 y y1 (h.trans _ _ _ y2 hs.2) y3⟩
  · rintro (rfl | hd)
    · exact fun hr => ra_self hr
    · have hds := (dom_iff h hsd hsN).1 hd
      have has := h.le _ _ hds.1
      refine (dom_iff h hsd hw).2 ⟨h.trans _ _ _ hds.1 hs.2, fun y y1 y2 y3 => ?_⟩
      by_cases hys : y ≤ sd w
      · exact hds.2 y y1 (anc_chain h y2 hs.2 hys) y3
      · have := m4 y (anc_chain h hs.2 y2 (by omega)) (by omega) y2
        omega
theorem near_far {w m d : Nat} (h0 : 0 < w) (hw : w < N) (hm : Arg A sd (sd w) w m) (hc : sd m < sd w) (hd : Near E m d) : Near E w d := by
  obtain ⟨m1, m2, m3, m4⟩ := hm
  have hs := sd_lt h h0 hw (hsd w h0 hw)
  have m11 := h.le _ _ m1
  have m31 := h.le _ _ m3
  have hmw : m < w := by
    rcases Nat.lt_or_ge m w with hl | hl
    · exact hl
    · obtain rfl : m = w := by omega
      omega
  obtain ⟨i1, i2⟩ := hd
  refine ⟨by omega, fun a => ?_⟩
  have hum : ¬ RA E a d → a < m := fun hn => by
    have := h.le _ _ ((dom_iff h hsd (by omega)).1 hn).1; omega
  constructor
  · intro hd
    by_cases haw : a = w
    · exact .inl haw
    · right
      have hdw := (dom_iff h hsd hw).1 hd
      have has : a ≤ sd w := hdw.2 w hdw.1 (h.refl _ hw) (fun e => haw e.symm)
      have hdm : ¬ RA E a m := (dom_iff h hsd m11.2).2 ⟨anc_chain h hdw.1 m3 (by omega), fun y y1 y2 y3 => hdw.2 y y1 (h.trans _ _ _ y2 m3) y3⟩
      exact ((i2 a).1 hdm).resolve_left (by omega)
  · rintro (rfl | hd)
    · exact fun hr => ra_self hr
    · have ham := hum hd
      have hdm := (i2 a).2 (.inr hd)
      have hdm' := (dom_iff h hsd m11.2).1 hdm
      have hasm : a ≤ sd m := hdm'.2 m hdm'.1 (h.refl _ m11.2) (by omega)
      refine (dom_iff h hsd hw).2 ⟨h.trans _ _ _ hdm'.1 m3, fun y y1 y2 y3 => ?_⟩
      by_cases hym : y ≤ m
      · exact hdm'.2 y y1 (anc_chain h y2 m3 hym) y3
      · have := m4 y (anc_chain h hs.2 y2 (by omega)) (by omega) y2
        omega
end
end LT
end Go.Proofs.Ytnkbbjeepdjamaa
/- Dominators, plain: the forest, the buckets, the half-dominators, as rows of numbers of places. No condition. -/
namespace Go.Proofs.Ytnkbbjeepdjamaa
namespace LT
theorem pre_inj {s : List Nat} (hnd : s.Nodup) {j k v : Nat} (h1 : s[j]? = some v) (h2 : s[k]? = some v) : j = k := by
  obtain ⟨hj, hje⟩ := List.getElem?_eq_some_iff.1 h1
  obtain ⟨hk, hke⟩ := List.getElem?_eq_some_iff.1 h2
  exact (List.getElem_inj hnd).1 (hje.trans hke.symm)
/-- The forest: those from number i0 on are joined to one above, with the least half-dominator on the way. -/
structure Forest (s : List Nat) (A : Nat → Nat → Prop) (sd : Nat → Nat) (i0 : Nat) (root label : List Int) : Prop where
  un : ∀ j v : Nat, j < i0 → s[j]? = some v → root[v]? = some (-1) ∧ label[v]? = some (v : Int)
  ln : ∀ j v : Nat, i0 ≤ j → s[j]? = some v → ∃ r u l x : Nat, s[r]? = some u ∧ root[v]? = some (u : Int) ∧ s[l]? = some x ∧ label[v]? = some (x : Int) ∧ Arg A sd r j l ∧ ∀ y, A r y → r ≠ y → A y j → i0 ≤ y
section
variable {s : List Nat} {E A : Nat → Nat → Prop} {p : Nat → Nat} {sd : Nat → Nat} (h : Dfs s.length E A p) (hnd : s.Nodup)
include h
omit h in
theorem Arg.anc {r j l : Nat} (htr : ∀ i j k, A i j → A j k → A i k) (h : Arg A sd r j l) : A r j := htr _ _ _ h.1 h.2.2.1
theorem Arg.join {r2 r j l2 l : Nat} (h1 : Arg A sd r2 r l2) (h2 : Arg A sd r j l) :
    Arg A sd r2 j (if sd l2 < sd l then l2 else l) ∧ (∀ y, A r2 y → r2 ≠ y → A y j → (A r2 y ∧ r2 ≠ y ∧ A y r) ∨ (A r y ∧ r ≠ y ∧ A y j)) := by
  have a1 := h1.anc h.trans
  have a2 := h2.anc h.trans
  have l1 := h.le _ _ a1
  have l3 := h.le _ _ h1.1
  have l4 := h.le _ _ h1.2.2.1
  have l5 := h.le _ _ h2.1
  have n1 := h1.2.1
  have n2 := h2.2.1
  have split : ∀ y, A r2 y → r2 ≠ y → A y j → (A r2 y ∧ r2 ≠ y ∧ A y r) ∨ (A r y ∧ r ≠ y ∧ A y j) := fun y y1 y2 y3 => by
    by_cases hy : y ≤ r
    · exact .inl ⟨y1, y2, anc_chain h y3 a2 hy⟩
    · exact .inr ⟨anc_chain h a2 y3 (by omega), by omega, y3⟩
  refine ⟨?_, split⟩
  split
  · rename_i hc
    refine ⟨h1.1, n1, h.trans _ _ _ h1.2.2.1 a2, fun y y1 y2 y3 => ?_⟩
    rcases split y y1 y2 y3 with ⟨z1, z2, z3⟩ | ⟨z1, z2, z3⟩
    · exact h1.2.2.2 y z1 z2 z3
    · have := h2.2.2.2 y z1 z2 z3; omega
  · rename_i hc
    refine ⟨h.trans _ _ _ a1 h2.1, by omega, h2.2.2.1, fun y y1 y2 y3 => ?_⟩
    rcases split y y1 y2 y3 with ⟨z1, z2, z3⟩ | ⟨z1, z2, z3⟩
    · have := h1.2.2.2 y z1 z2 z3; omega
    · exact h2.2.2.2 y z1 z2 z3
include hnd
/-- A way to the root is made short. -/
theorem Forest.short {i0 : Nat} {root label : List Int} (hf : Forest s A sd i0 root label) {j r r2 l l2 v u2 x x2 : Nat} (hj : i0 ≤ j) (hv : s[j]? = some v)
    (hr2 : s[r2]? = some u2) (hl : s[l]? = some x) (hl2 : s[l2]? = some x2)
    (ha : Arg A sd r j l) (ha2 : Arg A sd r2 r l2) (hlk : ∀ y, A r y → r ≠ y → A y j → i0 ≤ y) (hlk2 : ∀ y, A r2 y → r2 ≠ y → A y r → i0 ≤ y) (hvr : v < root.length) (hvl : v < label.length) :
    Forest s A sd i0 (root.set v (u2 : Int)) (label.set v (if sd l2 < sd l then (x2 : Int) else (x : Int))) := by
  have key := Arg.join h ha2 ha
  refine ⟨fun k z hk hz => ?_, fun k z hk hz => ?_⟩
  · have hne : v ≠ z := fun e => by subst e; have := pre_inj hnd hv hz; omega
    rw [List.getElem?_set_ne hne, List.getElem?_set_ne hne]
    exact hf.un k z hk hz
  · by_cases hne : v = z
    · subst hne
      obtain rfl := pre_inj hnd hv hz
      rw [List.getElem?_set_self hvr, List.getElem?_set_self hvl]
      refine ⟨r2, u2, if sd l2 < sd l then l2 else l, if sd l2 < sd l then x2 else x, hr2, rfl, ?_, ?_, key.1, fun y y1 y2 y3 => ?_⟩
      · split <;> assumption
      · split <;> rfl
      · rcases key.2 y y1 y2 y3 with ⟨z1, z2, z3⟩ | ⟨z1, z2, z3⟩
        · exact hlk2 y z1 z2 z3
        · exact hlk y z1 z2 z3
    · rw [List.getElem?_set_ne hne, List.getElem?_set_ne hne]
      exact hf.ln k z hk hz
/-- One more is joined to its parent. -/
theorem Forest.link {i w u : Nat} {root label : List Int} (hf : Forest s A sd (i + 1) root label) (h0 : 0 < i) (hw : s[i]? = some w) (hu : s[p i]? = some u) : Forest s A sd i (root.set w (u : Int)) label := by
  have hi := (List.getElem?_eq_some_iff.1 hw).1
  have hp := h.par i h0 hi
  refine ⟨fun k z hk hz => ?_, fun k z hk hz => ?_⟩
  · have hne : w ≠ z := fun e => by subst e; have := pre_inj hnd hw hz; omega
    rw [List.getElem?_set_ne hne]
    exact hf.un k z (by omega) hz
  · by_cases hne : w = z
    · subst hne
      obtain rfl := pre_inj hnd hw hz
      have h1 := hf.un i w (by omega) hw
      have hwr := (List.getElem?_eq_some_iff.1 h1.1).1
      rw [List.getElem?_set_self hwr]
      have only : ∀ y, A (p i) y → p i ≠ y → A y i → y = i := fun y y1 y2 y3 => by
        apply Classical.byContradiction
        intro hc
        have := h.le _ _ (h.up _ _ y3 hc)
        have := h.le _ _ y1
        omega
      refine ⟨p i, u, i, w, hu, rfl, hw, h1.2, ⟨hp.2, by omega, h.refl _ hi, fun y y1 y2 y3 => by rw [only y y1 y2 y3]; exact Nat.le_refl _⟩, fun y y1 y2 y3 => by rw [only y y1 y2 y3]; exact Nat.le_refl _⟩
    · rw [List.getElem?_set_ne hne]
      have : k ≠ i := fun e => hne (by subst e; rw [hw] at hz; exact Option.some.inj hz)
      obtain ⟨r, u', l, x, h1, h2, h3, h4, h5, h6⟩ := hf.ln k z (by omega) hz
      exact ⟨r, u', l, x, h1, h2, h3, h4, h5, fun y y1 y2 y3 => by have := h6 y y1 y2 y3; omega⟩
end
/-- Half-dominators while number i is looked at: of those behind, its own so far, those ahead have their numbers. -/
def sv (sd : Nat → Nat) (i c j : Nat) : Nat := if i < j then sd j else if j = i then c else j
structure Semi (s : List Nat) (sd : Nat → Nat) (n i c : Nat) (semi : List Int) : Prop where
  met : ∀ j v, s[j]? = some v → semi[v]? = some ((sv sd i c j : Nat) : Int)
  un : ∀ v, v < n → v ∉ s → semi[v]? = some (-1)
  len : semi.length = n
theorem Semi.less {s : List Nat} {sd : Nat → Nat} {n i c : Nat} {semi : List Int} (h : Semi s sd n i c semi) (hnd : s.Nodup) {w : Nat} (hw : s[i]? = some w) (c' : Nat) : Semi s sd n i c' (semi.set w (c' : Int)) := by
  have h1 := h.met i w hw
  have hwl := (List.getElem?_eq_some_iff.1 h1).1
  refine ⟨fun j v hv => ?_, fun v hv hn => ?_, by rw [List.length_set]; exact h.len⟩
  · by_cases e : w = v
    · subst e
      obtain rfl := pre_inj hnd hw hv
      rw [List.getElem?_set_self hwl]
      simp [sv]
    · have hji : j ≠ i := fun e2 => e (by subst e2; rw [hw] at hv; exact Option.some.inj hv)
      rw [List.getElem?_set_ne e, h.met j v hv]
      simp [sv, hji]
  · rw [List.getElem?_set_ne (fun e => hn (by subst e; exact List.mem_of_getElem? hw))]
    exact h.un v hv hn
theorem Semi.next {s : List Nat} {sd : Nat → Nat} {n i : Nat} {semi : List Int} (h0 : 0 < i) (h : Semi s sd n i (sd i) semi) : Semi s sd n (i - 1) (i - 1) semi := by
  refine ⟨fun j v hv => ?_, h.un, h.len⟩
  rw [h.met j v hv]
  congr 2
  unfold sv
  by_cases h1 : i < j
  · rw [if_pos h1, if_pos (by omega)]
  · by_cases h2 : j = i
    · subst h2; rw [if_neg h1, if_pos rfl, if_pos (by omega)]
    · rw [if_neg h1, if_neg h2, if_neg (by omega)]
      split <;> omega
/-- What the least so far is good for, of the places ahead that were looked at. -/
def Cand (s : List Nat) (A : Nat → Nat → Prop) (sd : Nat → Nat) (i c : Nat) (l : List Nat) : Prop :=
  sd i ≤ c ∧ c ≤ i ∧ ∀ v ∈ l, ∀ j, s[j]? = some v → (j < i → c ≤ j) ∧ (i < j → ∀ u, i < u → A u j → c ≤ sd u)
section
variable {s : List Nat} {g : Nat → List Nat} {A : Nat → Nat → Prop} {p : Nat → Nat} {sd : Nat → Nat} {E : Nat → Nat → Prop}
theorem Cand.start (h : Dfs s.length E A p) (hsd : ∀ j, 0 < j → j < s.length → IsSd E j (sd j)) {i : Nat} (h0 : 0 < i) (hi : i < s.length) : Cand s A sd i i [] :=
  ⟨Nat.le_of_lt (sd_lt h h0 hi (hsd i h0 hi)).1, Nat.le_refl _, by simp⟩
theorem Cand.skip {i c v : Nat} {l : List Nat} (h : Cand s A sd i c l) (hv : v ∉ s) : Cand s A sd i c (l ++ [v]) := by
  refine ⟨h.1, h.2.1, fun x hx j hj => ?_⟩
  rcases List.mem_append.1 hx with hx | hx
  · exact h.2.2 x hx j hj
  · simp at hx; subst hx; exact absurd (List.mem_of_getElem? hj) hv
/-- One from ahead, itself not joined yet. -/
theorem Cand.near (hd : Dfs s.length E A p) (hsd : ∀ j, 0 < j → j < s.length → IsSd E j (sd j)) (hnd : s.Nodup) {i c j v : Nat} {l : List Nat} (h : Cand s A sd i c l) (h0 : 0 < i) (hj : s[j]? = some v) (hji : j ≤ i) (he : E j i) :
    Cand s A sd i (min c (sv sd i c j)) (l ++ [v]) := by
  have hs := (hsd i h0 (hd.ed _ _ he).2).2 j (.base he)
  have e : sv sd i c j = if j = i then c else j := by unfold sv; rw [if_neg (by omega)]
  rw [e]
  refine ⟨?_, ?_, fun x hx k hk => ?_⟩
  · have := h.1; split <;> omega
  · have := h.2.1; split <;> omega
  · rcases List.mem_append.1 hx with hx | hx
    · have h1 := h.2.2 x hx k hk
      exact ⟨fun hl => by have := h1.1 hl; omega, fun hl u hu ha => by have := h1.2 hl u hu ha; omega⟩
    · simp at hx; subst hx
      obtain rfl := pre_inj hnd hj hk
      exact ⟨fun hl => by rw [if_neg (by omega)]; omega, fun hl => by omega⟩
/-- One from behind, joined. -/
theorem Cand.far (hd : Dfs s.length E A p) (hsd : ∀ j, 0 < j → j < s.length → IsSd E j (sd j)) (hnd : s.Nodup) {i c j v r m : Nat} {l : List Nat} (h : Cand s A sd i c l) (h0 : 0 < i) (hj : s[j]? = some v) (hji : i < j) (he : E j i)
    (hr : r < i + 1) (ha : Arg A sd r j m) (hlk : ∀ y, A r y → r ≠ y → A y j → i + 1 ≤ y) : Cand s A sd i (min c (sv sd i c m)) (l ++ [v]) := by
  have hm1 := hlk m ha.1 ha.2.1 ha.2.2.1
  have hml := hd.le _ _ ha.2.2.1
  have hml' := hd.le _ _ ha.1
  have hs := (hsd i h0 (hd.ed _ _ he).2).2 (sd m) (up_walk hd (by omega) ha.2.2.1 he (hsd m (by omega) hml'.2).1)
  have e : sv sd i c m = sd m := by unfold sv; rw [if_pos (by omega)]
  rw [e]
  refine ⟨by have := h.1; omega, by have := h.2.1; omega, fun x hx k hk => ?_⟩
  rcases List.mem_append.1 hx with hx | hx
  · have h1 := h.2.2 x hx k hk
    exact ⟨fun hl => by have := h1.1 hl; omega, fun hl u hu ha => by have := h1.2 hl u hu ha; omega⟩
  · simp at hx; subst hx
    obtain rfl := pre_inj hnd hj hk
    refine ⟨fun hl => by omega, fun _ u hu hau => ?_⟩
    have := ha.2.2.2 u (anc_chain hd (ha.anc hd.trans) hau (by omega)) (by omega) hau
    omega
theorem Cand.done (hd : Dfs s.length E A p) (hsd : ∀ j, 0 < j → j < s.length → IsSd E j (sd j)) {i c : Nat} {l : List Nat} (h : Cand s A sd i c l) (h0 : 0 < i) (hi : i < s.length)
    (hl : ∀ j v, s[j]? = some v → E j i → v ∈ l) : c = sd i := by
  have hs := hsd i h0 hi
  have hlt := sd_lt hd h0 hi hs
  have hE : ∀ j, E j i → ∃ v, s[j]? = some v ∧ v ∈ l := fun j he => by
    have hj := (hd.ed _ _ he).1
    exact ⟨_, List.getElem?_eq_getElem hj, hl j _ (List.getElem?_eq_getElem hj) he⟩
  have h1 := h.1
  suffices c ≤ sd i by omega
  rcases up_cases hd hs.1 with he | ⟨u, v, h2, h3, h4, h5⟩
  · obtain ⟨v, hv, hm⟩ := hE _ he
    exact (h.2.2 v hm _ hv).1 hlt.1
  · obtain ⟨x, hx, hm⟩ := hE _ h4
    have h6 := hd.le _ _ h3
    have := (h.2.2 x hm _ hx).2 (by omega) u h2 h3
    have := (hsd u (by omega) (by omega)).2 _ h5
    omega
end
end LT
end Go.Proofs.Ytnkbbjeepdjamaa
/- Dominators, plain: the buckets; the two rounds over the numbers. No condition. -/
namespace Go.Proofs.Ytnkbbjeepdjamaa
namespace LT
/-- Number j's place has got its own, or one that has the same nearest one. -/
def Done (s : List Nat) (A : Nat → Nat → Prop) (sd : Nat → Nat) (up : List Int) (j x : Nat) : Prop :=
  ∃ m y : Nat, Arg A sd (sd j) j m ∧ s[if sd m < sd j then m else sd j]? = some y ∧ up[x]? = some (y : Int)
/-- The buckets: those from behind i are in theirs, or done; those of parents from behind k are done. -/
structure Buck (s : List Nat) (A : Nat → Nat → Prop) (sd p : Nat → Nat) (n i k : Nat) (b : List (List Nat)) (up : List Int) : Prop where
  inb : ∀ q u x, s[q]? = some u → x ∈ b.getD u [] → ∃ j, i < j ∧ s[j]? = some x ∧ sd j = q
  has : ∀ j x u, i < j → s[j]? = some x → s[sd j]? = some u → x ∈ b.getD u [] ∨ Done s A sd up j x
  done : ∀ c j x, k < c → c ≤ j → s[j]? = some x → sd j = p c → Done s A sd up j x
  un : ∀ v, v < n → (∀ j, 0 < j → s[j]? ≠ some v) → up[v]? = some (-1)
  lup : up.length = n
  lb : b.length = n
  cnt : ∀ u, (b.getD u []).length + i + 1 ≤ s.length
theorem getD_setL {b : List (List Nat)} {k u : Nat} {l : List Nat} (hk : k < b.length) : (b.set k l).getD u [] = if k = u then l else b.getD u [] := by
  simp only [List.getD_eq_getElem?_getD, List.getElem?_set]
  by_cases e : k = u
  · subst e; simp [hk]
  · simp [e]
section
variable {s : List Nat} {E A : Nat → Nat → Prop} {p sd : Nat → Nat} (h : Dfs s.length E A p) (hsd : ∀ j, 0 < j → j < s.length → IsSd E j (sd j)) (hnd : s.Nodup)
theorem Buck.start {n : Nat} (h0 : 0 < s.length) : Buck s A sd p n (s.length - 1) (s.length - 1) (List.replicate n []) (List.replicate n (-1)) := by
  have hr : ∀ u x, x ∉ (List.replicate n ([] : List Nat)).getD u [] := fun u x hx => by
    rw [List.getD_eq_getElem?_getD, List.getElem?_replicate] at hx
    split at hx <;> simp at hx
  refine ⟨fun q u x _ hx => absurd hx (hr u x), fun j x u hj hx => ?_, fun c j x hc hj hx => ?_, fun v hv _ => by simp [hv], by simp, by simp, fun u => ?_⟩
  · have := (List.getElem?_eq_some_iff.1 hx).1; omega
  · have := (List.getElem?_eq_some_iff.1 hx).1; omega
  · have : ((List.replicate n ([] : List Nat)).getD u []).length = 0 := by
      rw [List.getD_eq_getElem?_getD, List.getElem?_replicate]
      split <;> simp
    omega
include h hsd hnd
omit hnd in
theorem sd_at {j : Nat} (h0 : 0 < j) (hj : j < s.length) : ∃ u, s[sd j]? = some u := by
  have := sd_lt h h0 hj (hsd j h0 hj)
  exact ⟨_, List.getElem?_eq_getElem (by omega)⟩
omit h hsd in
/-- One more, into its half-dominator's bucket. -/
theorem Buck.add {n i w k : Nat} {b : List (List Nat)} {up : List Int} (hb : Buck s A sd p n i i b up) (h0 : 0 < i) (hw : s[i]? = some w) (hk : s[sd i]? = some k) (hkn : k < n) :
    Buck s A sd p n (i - 1) i (b.set k (b.getD k [] ++ [w])) up := by
  have hkb : k < b.length := by rw [hb.lb]; exact hkn
  refine ⟨fun q u x hu hx => ?_, fun j x u hj hx hu => ?_, hb.done, hb.un, hb.lup, by simp [hb.lb], fun u => ?_⟩
  · rw [getD_setL hkb] at hx
    by_cases e : k = u
    · rw [if_pos e] at hx
      subst e
      obtain rfl := pre_inj hnd hk hu
      rcases List.mem_append.1 hx with hx | hx
      · obtain ⟨j, h1, h2, h3⟩ := hb.inb _ _ _ hu hx
        exact ⟨j, by omega, h2, h3⟩
      · simp at hx; subst hx
        exact ⟨i, by omega, hw, rfl⟩
    · rw [if_neg e] at hx
      obtain ⟨j, h1, h2, h3⟩ := hb.inb _ _ _ hu hx
      exact ⟨j, by omega, h2, h3⟩
  · rw [getD_setL hkb]
    by_cases hji : j = i
    · subst hji
      rw [hk] at hu
      obtain rfl := Option.some.inj hu
      rw [hw] at hx
      obtain rfl := Option.some.inj hx
      rw [if_pos rfl]; simp
    · refine (hb.has j x u (by omega) hx hu).imp (fun hm => ?_) id
      split
      · rename_i e; subst e; exact List.mem_append_left _ hm
      · exact hm
  · rw [getD_setL hkb]
    have h1 := hb.cnt u
    split
    · rename_i e; subst e; rw [List.length_append, List.length_singleton]; omega
    · omega
omit hnd in
/-- The root of one in the bucket is the bucket's place. -/
theorem arg_root {i j r m : Nat} (h0 : 0 < i) (hi : i ≤ j) (hj : j < s.length) (hs : sd j = p i) (ha : Arg A sd r j m) (hr : r < i) (hlk : ∀ y, A r y → r ≠ y → A y j → i ≤ y) : r = sd j := by
  have h1 := sd_lt h (by omega) hj (hsd j (by omega) hj)
  have h2 := ha.anc h.trans
  have h3 := h.par i h0 (by omega)
  rcases Nat.lt_trichotomy r (sd j) with hl | hl | hl
  · have := hlk (sd j) (anc_chain h h2 h1.2 (by omega)) (by omega) h1.2
    omega
  · exact hl
  · have := h.le _ _ (h.up _ _ (h.int _ _ _ h2 (by omega) hi) (by omega))
    omega
omit h hsd in
/-- One in the bucket is done. -/
theorem Buck.put {n i k j x v : Nat} {b : List (List Nat)} {up : List Int} (hb : Buck s A sd p n i k b up) (h0 : 0 < j) (hx : s[j]? = some x) (hd : Done s A sd (up.set x (v : Int)) j x) : Buck s A sd p n i k b (up.set x (v : Int)) := by
  have keep : ∀ j' x', s[j']? = some x' → Done s A sd up j' x' → Done s A sd (up.set x (v : Int)) j' x' := fun j' x' hx' hd' => by
    by_cases e : x = x'
    · subst e
      obtain rfl := pre_inj hnd hx hx'
      exact hd
    · obtain ⟨m, y, h1, h2, h3⟩ := hd'
      exact ⟨m, y, h1, h2, by rw [List.getElem?_set_ne e]; exact h3⟩
  refine ⟨hb.inb, fun j' x' u hj' hx' hu => (hb.has j' x' u hj' hx' hu).imp id (keep j' x' hx'), fun c j' x' hc hj' hx' hs => keep j' x' hx' (hb.done c j' x' hc hj' hx' hs), fun v' hv' hn => ?_, by simp [hb.lup], hb.lb, hb.cnt⟩
  rw [List.getElem?_set_ne (fun e => hn j h0 (by rw [← e]; exact hx))]
  exact hb.un v' hv' hn
omit h hsd in
theorem Done.keep {j x j' x' v : Nat} {up : List Int} (hx : s[j]? = some x) (hd : Done s A sd (up.set x (v : Int)) j x) (hx' : s[j']? = some x') (hd' : Done s A sd up j' x') : Done s A sd (up.set x (v : Int)) j' x' := by
  by_cases e : x = x'
  · subst e
    obtain rfl := pre_inj hnd hx hx'
    exact hd
  · obtain ⟨m, y, h1, h2, h3⟩ := hd'
    exact ⟨m, y, h1, h2, by rw [List.getElem?_set_ne e]; exact h3⟩
omit h hsd hnd in
/-- The bucket is emptied. -/
theorem Buck.clear {n i u : Nat} {b : List (List Nat)} {up : List Int} (hb : Buck s A sd p n (i - 1) i b up) (h0 : 0 < i) (hu : s[p i]? = some u) (hun : u < n)
    (hall : ∀ j x, s[j]? = some x → x ∈ b.getD u [] → Done s A sd up j x) : Buck s A sd p n (i - 1) (i - 1) (b.set u []) up := by
  have hub : u < b.length := by rw [hb.lb]; exact hun
  refine ⟨fun q v x hv hx => ?_, fun j x v hj hx hv => ?_, fun c j x hc hj hx hs => ?_, hb.un, hb.lup, by simp [hb.lb], fun v => ?_⟩
  · rw [getD_setL hub] at hx
    split at hx
    · simp at hx
    · exact hb.inb _ _ _ hv hx
  · rw [getD_setL hub]
    rcases hb.has j x v hj hx hv with hm | hd
    · by_cases e : u = v
      · subst e; exact .inr (hall j x hx hm)
      · rw [if_neg e]; exact .inl hm
    · exact .inr hd
  · by_cases e : c = i
    · subst e
      have hjs := (List.getElem?_eq_some_iff.1 hx).1
      rcases hb.has j x u (by omega) hx (by rw [hs]; exact hu) with hm | hd
      · exact hall j x hx hm
      · exact hd
    · exact hb.done c j x (by omega) hj hx hs
  · rw [getD_setL hub]
    have h1 := hb.cnt v
    split
    · have := hb.cnt u; simp only [List.length_nil]; omega
    · exact h1
omit hsd hnd in
theorem child {q : Nat} : ∀ (j : Nat), A q j → q < j → ∃ c, 0 < c ∧ c ≤ j ∧ p c = q := by
  intro j
  induction j using Nat.strongRecOn with
  | _ j ih =>
    intro ha hlt
    have hj := h.le _ _ ha
    by_cases e : p j = q
    · exact ⟨j, by omega, Nat.le_refl _, e⟩
    · have h1 := h.par j (by omega) hj.2
      have h2 := h.up _ _ ha (by omega)
      have h3 := h.le _ _ h2
      obtain ⟨c, h4, h5, h6⟩ := ih (p j) h1.1 h2 (by omega)
      exact ⟨c, h4, by omega, h6⟩
omit hnd in
/-- Behind the first round all are done. -/
theorem Buck.all {n : Nat} {b : List (List Nat)} {up : List Int} (hb : Buck s A sd p n 0 0 b up) {j x : Nat} (h0 : 0 < j) (hx : s[j]? = some x) : Done s A sd up j x := by
  have hj := (List.getElem?_eq_some_iff.1 hx).1
  have hs := sd_lt h h0 hj (hsd j h0 hj)
  obtain ⟨c, h1, h2, h3⟩ := child h j hs.2 hs.1
  exact hb.done c j x h1 h2 hx h3.symm
end
/-- While the second round is at number i. -/
structure Second (s : List Nat) (E A : Nat → Nat → Prop) (sd : Nat → Nat) (n i : Nat) (up : List Int) : Prop where
  near : ∀ j x, 0 < j → j < i → s[j]? = some x → ∃ d u : Nat, s[d]? = some u ∧ up[x]? = some (u : Int) ∧ Near E j d
  done : ∀ j x, i ≤ j → s[j]? = some x → Done s A sd up j x
  un : ∀ v, v < n → (∀ j, 0 < j → s[j]? ≠ some v) → up[v]? = some (-1)
  lup : up.length = n
section
variable {s : List Nat} {E A : Nat → Nat → Prop} {p sd : Nat → Nat} (h : Dfs s.length E A p) (hsd : ∀ j, 0 < j → j < s.length → IsSd E j (sd j)) (hnd : s.Nodup)
include h hsd hnd
omit hnd in
theorem Second.start {n : Nat} {b : List (List Nat)} {up : List Int} (hb : Buck s A sd p n 0 0 b up) : Second s E A sd n 1 up :=
  ⟨fun j x h0 h1 => by omega, fun j x hj hx => hb.all h hsd (by omega) hx, hb.un, hb.lup⟩
/-- At number i: what it holds is its half-dominator, or one whose own is known; then this one's own is it. -/
theorem Second.look {n i w : Nat} {up : List Int} (hs : Second s E A sd n i up) (h0 : 0 < i) (hw : s[i]? = some w) :
    ∃ k u : Nat, s[sd i]? = some k ∧ up[w]? = some (u : Int) ∧ ((u = k ∧ Second s E A sd n (i + 1) up) ∨ (u ≠ k ∧ ∃ v : Nat, up[u]? = some (v : Int) ∧ Second s E A sd n (i + 1) (up.set w (v : Int)))) := by
  have hi := (List.getElem?_eq_some_iff.1 hw).1
  obtain ⟨m, y, h1, h2, h3⟩ := hs.done i w (Nat.le_refl _) hw
  obtain ⟨k, hk⟩ := sd_at h hsd h0 hi
  have hsl := sd_lt h h0 hi (hsd i h0 hi)
  have fin : ∀ (up' : List Int), (∀ x, x ≠ w → up'[x]? = up[x]?) → up'.length = n → (∃ d u : Nat, s[d]? = some u ∧ up'[w]? = some (u : Int) ∧ Near E i d) → Second s E A sd n (i + 1) up' := by
    intro up' ho hl hn
    have hne : ∀ j x, s[j]? = some x → j ≠ i → x ≠ w := fun j x hx hji e => hji (by subst e; exact pre_inj hnd hx hw)
    refine ⟨fun j x hj0 hji hx => ?_, fun j x hj hx => ?_, fun v hv hn' => ?_, hl⟩
    · by_cases e : j = i
      · subst e
        rw [hw] at hx
        obtain rfl := Option.some.inj hx
        exact hn
      · rw [ho x (hne j x hx e)]
        exact hs.near j x hj0 (by omega) hx
    · obtain ⟨m', y', g1, g2, g3⟩ := hs.done j x (by omega) hx
      exact ⟨m', y', g1, g2, by rw [ho x (hne j x hx (by omega))]; exact g3⟩
    · rw [ho v (fun e => hn' i h0 (by rw [e]; exact hw))]
      exact hs.un v hv hn'
  by_cases hc : sd m < sd i
  · rw [if_pos hc] at h2
    have hm1 := h.le _ _ h1.1
    have hm2 := h1.2.1
    have hm3 := h.le _ _ h1.2.2.1
    have hmi : m ≠ i := fun e => by subst e; omega
    obtain ⟨d, v, g1, g2, g3⟩ := hs.near m y (by omega) (by omega) h2
    have hwu := (List.getElem?_eq_some_iff.1 h3).1
    refine ⟨k, y, hk, h3, .inr ⟨fun e => ?_, v, g2, fin _ (fun x hx => List.getElem?_set_ne (fun e => hx e.symm)) (by simp [hs.lup]) ⟨d, v, g1, by rw [List.getElem?_set_self hwu], near_far h hsd h0 hi h1 hc g3⟩⟩⟩
    subst e
    have := pre_inj hnd h2 hk
    omega
  · rw [if_neg hc] at h2
    refine ⟨k, y, hk, h3, .inl ⟨?_, fin up (fun _ _ => rfl) hs.lup ⟨sd i, y, h2, h3, near_sd h hsd h0 hi h1 hc⟩⟩⟩
    rw [hk] at h2
    exact (Option.some.inj h2).symm
end
end LT
end Go.Proofs.Ytnkbbjeepdjamaa
/- Depth first through a graph, told by a plain function: what is seen, what is met, what is left. No condition. -/
namespace Go.Proofs.Ytnkbbjeepdjamaa

/-- What a walk has done: which places are seen, those met, those left. -/
structure DSt where
  seen : List Bool
  pre : List Nat
  post : List Nat
def dfs (g : Nat → List Nat) : Nat → Nat → DSt → DSt
  | 0, _, s => s
  | k + 1, v, s => (fun s2 : DSt => { s2 with post := s2.post ++ [v] }) ((g v).foldl (fun s w => if s.seen.getD w true = true then s else dfs g k w s) { s with seen := s.seen.set v true, pre := s.pre ++ [v] })
/-- The places behind one, gone to one after the other. -/
def dfsL (g : Nat → List Nat) (k : Nat) (l : List Nat) (s : DSt) : DSt := l.foldl (fun s w => if s.seen.getD w true = true then s else dfs g k w s) s
def DSt.enter (s : DSt) (v : Nat) : DSt := { s with seen := s.seen.set v true, pre := s.pre ++ [v] }
def DSt.leave (s : DSt) (v : Nat) : DSt := { s with post := s.post ++ [v] }
theorem dfs_succ (g : Nat → List Nat) (k v : Nat) (s : DSt) : dfs g (k + 1) v s = (dfsL g k (g v) (s.enter v)).leave v := by
  rw [dfs]; rfl
theorem dfsL_nil (g : Nat → List Nat) (k : Nat) (s : DSt) : dfsL g k [] s = s := rfl
theorem dfsL_cons (g : Nat → List Nat) (k w : Nat) (l : List Nat) (s : DSt) : dfsL g k (w :: l) s = dfsL g k l (if s.seen.getD w true = true then s else dfs g k w s) := rfl
theorem dfsL_snoc (g : Nat → List Nat) (k w : Nat) (l : List Nat) (s : DSt) : dfsL g k (l ++ [w]) s = if (dfsL g k l s).seen.getD w true = true then dfsL g k l s else dfs g k w (dfsL g k l s) := by
  unfold dfsL; rw [List.foldl_append]; rfl
/-- How many are not seen. -/
def unseen (l : List Bool) : Nat := (l.filter (fun b => !b)).length
theorem unseen_set {l : List Bool} {v : Nat} (h : l.getD v true = false) : unseen (l.set v true) + 1 = unseen l := by
  induction l generalizing v with
  | nil => simp at h
  | cons b l ih =>
    cases v with
    | zero => simp at h; subst h; simp [unseen]
    | succ v =>
      have := ih (v := v) (by simpa using h)
      unfold unseen at *
      cases b <;> simp <;> omega
/-- Which places come, out of which state, into which. -/
structure Ran (g : Nat → List Nat) (s s' : DSt) (new : List Nat) : Prop where
  len : s'.seen.length = s.seen.length
  seen : ∀ i, s'.seen.getD i true = true ↔ (s.seen.getD i true = true ∨ i ∈ new)
  pre : s'.pre = s.pre ++ new
  nodup : new.Nodup
  fresh : ∀ i ∈ new, s.seen.getD i true = false
theorem Ran.refl (g : Nat → List Nat) (s : DSt) : Ran g s s [] := ⟨rfl, by simp, by simp, by simp, by simp⟩
theorem Ran.trans {g : Nat → List Nat} {a b c : DSt} {l m : List Nat} (h : Ran g a b l) (k : Ran g b c m) : Ran g a c (l ++ m) :=
  ⟨k.len.trans h.len, fun i => by rw [k.seen, h.seen, List.mem_append, or_assoc], by rw [k.pre, h.pre, List.append_assoc],
   List.nodup_append.2 ⟨h.nodup, k.nodup, fun x hx y hy e => by
    subst e
    have := k.fresh x hy
    rw [(h.seen x).2 (.inr hx)] at this; cases this⟩,
   fun i hi => by
    rcases List.mem_append.1 hi with hi | hi
    · exact h.fresh i hi
    · have := k.fresh i hi
      cases hs : a.seen.getD i true with
      | false => rfl
      | true => rw [(h.seen i).2 (.inl hs)] at this; cases this⟩
theorem Ran.leave {g : Nat → List Nat} {a b : DSt} {l : List Nat} (h : Ran g a b l) (v : Nat) : Ran g a (b.leave v) l := ⟨h.len, h.seen, h.pre, h.nodup, h.fresh⟩
theorem getD_set {l : List Bool} {v i : Nat} (b : Bool) : (l.set v b).getD i true = if i = v ∧ v < l.length then b else l.getD i true := by
  simp only [List.getD_eq_getElem?_getD, List.getElem?_set]
  by_cases h : v = i
  · subst h
    by_cases hl : v < l.length
    · simp [hl]
    · simp [hl]
  · rw [if_neg h, if_neg (by omega)]
theorem getD_lt {l : List Bool} {v : Nat} (h : l.getD v true = false) : v < l.length := by
  apply Classical.byContradiction
  intro hn
  rw [List.getD_eq_getElem?_getD, List.getElem?_eq_none (by omega)] at h
  simp at h
theorem Ran.enter (g : Nat → List Nat) {s : DSt} {v : Nat} (h : s.seen.getD v true = false) : Ran g s (s.enter v) [v] :=
  ⟨by simp [DSt.enter], fun i => by
    simp only [DSt.enter, getD_set, List.mem_singleton]
    by_cases e : i = v
    · subst e; simp [getD_lt h]
    · simp [e], rfl, by simp, fun i hi => by simp at hi; rw [hi]; exact h⟩
theorem Ran.unseen {g : Nat → List Nat} {a b : DSt} {l : List Nat} (h : Ran g a b l) : unseen b.seen ≤ unseen a.seen := by
  have key : ∀ (x y : List Bool), x.length = y.length → (∀ i, x.getD i true = true → y.getD i true = true) → Proofs.Ytnkbbjeepdjamaa.unseen y ≤ Proofs.Ytnkbbjeepdjamaa.unseen x := by
    intro x
    induction x with
    | nil => intro y hl _; cases y with
      | nil => exact Nat.le_refl _
      | cons => simp at hl
    | cons b x ih =>
      intro y hl hm
      cases y with
      | nil => simp at hl
      | cons c y =>
        have := ih y (by simpa using hl) (fun i hi => by simpa using hm (i + 1) (by simpa using hi))
        have h0 := hm 0
        simp at h0
        unfold Proofs.Ytnkbbjeepdjamaa.unseen at *
        cases b <;> cases c <;> simp_all <;> omega
  exact key _ _ h.len.symm (fun i hi => (h.seen i).2 (.inl hi))
/-- One reaches another one, by ways. -/
inductive Way (g : Nat → List Nat) : Nat → Nat → Prop
  | refl (v : Nat) : Way g v v
  | step {a b c : Nat} : Way g a b → c ∈ g b → Way g a c
theorem Way.trans {g : Nat → List Nat} {a b c : Nat} (h : Way g a b) (k : Way g b c) : Way g a c := by
  induction k with
  | refl => exact h
  | step _ hc ih => exact ih.step hc
theorem Way.head {g : Nat → List Nat} {a b c : Nat} (h : b ∈ g a) (k : Way g b c) : Way g a c := Way.trans (.step (.refl a) h) k
/-- What a walk with enough fuel does. -/
structure Did (g : Nat → List Nat) (from_ : Nat → Prop) (s s' : DSt) (new : List Nat) : Prop extends Ran g s s' new where
  closed : ∀ u ∈ new, ∀ w ∈ g u, s'.seen.getD w true = true
  way : ∀ u ∈ new, ∃ v, from_ v ∧ Way g v u
  post : ∃ out, s'.post = s.post ++ out ∧ ∀ i, i ∈ out ↔ i ∈ new
  outnd : ∀ out, s'.post = s.post ++ out → out.Nodup
theorem dfs_did (g : Nat → List Nat) : ∀ (k v : Nat) (s : DSt), s.seen.getD v true = false → unseen s.seen ≤ k → ∃ new, Did g (· = v) s (dfs g k v s) new ∧ v ∈ new
  | 0, v, s, hv, hk => by have := unseen_set hv; omega
  | k + 1, v, s, hv, hk => by
    have hen := Ran.enter g hv
    have hku : unseen (s.enter v).seen ≤ k := by have := unseen_set hv; simp only [DSt.enter]; omega
    have key : ∀ (l : List Nat) (a : DSt), unseen a.seen ≤ k → ∃ new, Did g (· ∈ l) a (dfsL g k l a) new ∧ ∀ w ∈ l, (dfsL g k l a).seen.getD w true = true := by
      intro l
      induction l with
      | nil => intro a _; exact ⟨[], ⟨Ran.refl g a, by simp, by simp, ⟨[], by simp [dfsL_nil], by simp⟩, fun out h => by rw [dfsL_nil] at h; rw [List.self_eq_append_right.1 h]; exact List.nodup_nil⟩, by simp⟩
      | cons w l ih =>
        intro a ha
        rw [dfsL_cons]
        by_cases hw : a.seen.getD w true = true
        · rw [if_pos hw]
          obtain ⟨new, h, hl⟩ := ih a ha
          refine ⟨new, ⟨h.toRan, h.closed, fun u hu => ?_, h.post, h.outnd⟩, fun x hx => ?_⟩
          · obtain ⟨v, h1, h2⟩ := h.way u hu; exact ⟨v, by simp [h1], h2⟩
          · rcases List.mem_cons.1 hx with rfl | hx
            · exact (h.seen x).2 (.inl hw)
            · exact hl x hx
        · rw [if_neg hw]
          obtain ⟨n1, h1, hv1⟩ := dfs_did g k w a (by simpa using hw) ha
          obtain ⟨n2, h2, hl⟩ := ih (dfs g k w a) (Nat.le_trans h1.unseen ha)
          have hr := h1.toRan.trans h2.toRan
          obtain ⟨o1, e1, m1⟩ := h1.post
          obtain ⟨o2, e2, m2⟩ := h2.post
          refine ⟨n1 ++ n2, ⟨hr, fun u hu y hy => ?_, fun u hu => ?_, ⟨o1 ++ o2, by rw [e2, e1, List.append_assoc], fun i => by rw [List.mem_append, List.mem_append, m1, m2]⟩, fun out ho => ?_⟩, fun x hx => ?_⟩
          · rcases List.mem_append.1 hu with hu | hu
            · exact (h2.seen y).2 (.inl (h1.closed u hu y hy))
            · exact h2.closed u hu y hy
          · rcases List.mem_append.1 hu with hu | hu
            · obtain ⟨v, rfl, hwy⟩ := h1.way u hu; exact ⟨v, by simp, hwy⟩
            · obtain ⟨v, hv, hw⟩ := h2.way u hu; exact ⟨v, by simp [hv], hw⟩
          · have : out = o1 ++ o2 := by
              rw [e2, e1, List.append_assoc] at ho
              exact (List.append_cancel_left ho).symm
            rw [this]
            exact List.nodup_append.2 ⟨h1.outnd _ e1, h2.outnd _ e2, fun x hx y hy e => by
              subst e
              have := h2.fresh x ((m2 x).1 hy)
              rw [(h1.seen x).2 (.inr ((m1 x).1 hx))] at this; cases this⟩
          · rcases List.mem_cons.1 hx with rfl | hx
            · exact (h2.seen x).2 (.inl ((h1.seen x).2 (.inr hv1)))
            · exact hl x hx
    obtain ⟨new, h, hl⟩ := key (g v) (s.enter v) hku
    rw [dfs_succ]
    have hr := (hen.trans h.toRan).leave v
    obtain ⟨o, eo, mo⟩ := h.post
    have hvn : v ∉ new := fun hm => by
      have := h.fresh v hm
      rw [(hen.seen v).2 (.inr (by simp))] at this; cases this
    refine ⟨[v] ++ new, ⟨hr, fun u hu w hw => ?_, fun u hu => ?_, ⟨o ++ [v], ?_, fun i => ?_⟩, fun out ho => ?_⟩, by simp⟩
    · rcases List.mem_append.1 hu with hu | hu
      · simp at hu; subst hu; exact hl w hw
      · exact h.closed u hu w hw
    · rcases List.mem_append.1 hu with hu | hu
      · simp at hu; subst hu; exact ⟨u, rfl, .refl u⟩
      · obtain ⟨x, hx, hw⟩ := h.way u hu; exact ⟨v, rfl, hw.head hx⟩
    · show (dfsL g k (g v) (s.enter v)).post ++ [v] = _
      rw [eo]; simp [DSt.enter]
    · simp [mo, or_comm]
    · have : out = o ++ [v] := by
        have e : ((dfsL g k (g v) (s.enter v)).leave v).post = s.post ++ (o ++ [v]) := by
          show (dfsL g k (g v) (s.enter v)).post ++ [v] = _
          rw [eo]; simp [DSt.enter]
        rw [e] at ho
        exact (List.append_cancel_left ho).symm
      rw [this]
      exact List.nodup_append.2 ⟨h.outnd _ eo, by simp, fun x hx y hy e => by
        simp at hy; subst hy; subst e; exact hvn ((mo x).1 hx)⟩
/-- What is met or left is no longer unseen. -/
theorem dfs_count (g : Nat → List Nat) : ∀ (k v : Nat) (s : DSt), s.seen.getD v true = false →
    (dfs g k v s).pre.length + unseen (dfs g k v s).seen = s.pre.length + unseen s.seen ∧ (dfs g k v s).post.length + unseen (dfs g k v s).seen = s.post.length + unseen s.seen ∧ unseen (dfs g k v s).seen ≤ unseen s.seen ∧ (dfs g k v s).seen.length = s.seen.length
  | 0, _, _, _ => ⟨rfl, rfl, Nat.le_refl _, rfl⟩
  | k + 1, v, s, hv => by
    have key : ∀ (l : List Nat) (a : DSt), (dfsL g k l a).pre.length + unseen (dfsL g k l a).seen = a.pre.length + unseen a.seen ∧ (dfsL g k l a).post.length + unseen (dfsL g k l a).seen = a.post.length + unseen a.seen ∧ unseen (dfsL g k l a).seen ≤ unseen a.seen ∧ (dfsL g k l a).seen.length = a.seen.length := by
      intro l
      induction l with
      | nil => intro a; exact ⟨rfl, rfl, Nat.le_refl _, rfl⟩
      | cons w l ih =>
        intro a
        rw [dfsL_cons]
        by_cases hw : a.seen.getD w true = true
        · rw [if_pos hw]; exact ih a
        · rw [if_neg hw]
          obtain ⟨h1, h2, h3, h4⟩ := dfs_count g k w a (by simpa using hw)
          obtain ⟨k1, k2, k3, k4⟩ := ih (dfs g k w a)
          exact ⟨k1.trans h1, k2.trans h2, Nat.le_trans k3 h3, k4.trans h4⟩
    have hs := unseen_set hv
    obtain ⟨h1, h2, h3, h4⟩ := key (g v) (s.enter v)
    rw [dfs_succ]
    simp only [DSt.enter, DSt.leave, List.length_append, List.length_singleton, List.length_set] at *
    exact ⟨by omega, by omega, by omega, h4⟩
theorem dfsL_count (g : Nat → List Nat) (k : Nat) : ∀ (l : List Nat) (a : DSt), (dfsL g k l a).pre.length + unseen (dfsL g k l a).seen = a.pre.length + unseen a.seen ∧ (dfsL g k l a).post.length + unseen (dfsL g k l a).seen = a.post.length + unseen a.seen ∧ unseen (dfsL g k l a).seen ≤ unseen a.seen ∧ (dfsL g k l a).seen.length = a.seen.length := by
  intro l
  induction l with
  | nil => intro a; exact ⟨rfl, rfl, Nat.le_refl _, rfl⟩
  | cons w l ih =>
    intro a
    rw [dfsL_cons]
    by_cases hw : a.seen.getD w true = true
    · rw [if_pos hw]; exact ih a
    · rw [if_neg hw]
      obtain ⟨h1, h2, h3, h4⟩ := dfs_count g k w a (by simpa using hw)
      obtain ⟨k1, k2, k3, k4⟩ := ih (dfs g k w a)
      exact ⟨k1.trans h1, k2.trans h2, Nat.le_trans k3 h3, k4.trans h4⟩
/-- From the first, none seen. -/
def dst0 (n : Nat) : DSt := ⟨List.replicate n false, [], []⟩
def dfs0 (g : Nat → List Nat) (n : Nat) : DSt := if n = 0 then dst0 n else dfs g n 0 (dst0 n)
theorem unseen_replicate (n : Nat) : unseen (List.replicate n false) = n := by
  unfold unseen; simp
theorem dst0_seen (n i : Nat) : (dst0 n).seen.getD i true = decide (¬ i < n) := by
  simp only [dst0, List.getD_eq_getElem?_getD, List.getElem?_replicate]
  by_cases h : i < n <;> simp [h]
/-- The whole walk: those that are reached are seen, met once, left once. -/
structure Whole (g : Nat → List Nat) (n : Nat) (s : DSt) : Prop where
  len : s.seen.length = n
  seen : ∀ i, i < n → (s.seen.getD i true = true ↔ Way g 0 i)
  pre : ∀ i, i ∈ s.pre ↔ i < n ∧ Way g 0 i
  post : ∀ i, i ∈ s.post ↔ i < n ∧ Way g 0 i
  prend : s.pre.Nodup
  postnd : s.post.Nodup
theorem dfs0_whole (g : Nat → List Nat) (n : Nat) (hn : 0 < n) (hg : ∀ i, ∀ w ∈ g i, w < n) : Whole g n (dfs0 g n) := by
  unfold dfs0
  rw [if_neg (by omega)]
  obtain ⟨new, h, h0⟩ := dfs_did g n 0 (dst0 n) (by rw [dst0_seen]; simp; omega) (by simp [dst0, unseen_replicate])
  have hlt : ∀ i ∈ new, i < n := fun i hi => by
    have := h.fresh i hi; rw [dst0_seen] at this; simpa using this
  have hway : ∀ i ∈ new, Way g 0 i := fun i hi => by obtain ⟨v, rfl, hw⟩ := h.way i hi; exact hw
  have hsee : ∀ i, i < n → ((dfs g n 0 (dst0 n)).seen.getD i true = true ↔ i ∈ new) := fun i hi => by
    rw [h.seen, dst0_seen]; simp [hi]
  have hin : ∀ i, Way g 0 i → i ∈ new := by
    intro i hi
    induction hi with
    | refl => exact h0
    | step _ hc ih => exact (hsee _ (hg _ _ hc)).1 (h.closed _ ih _ hc)
  have hiff : ∀ i, i ∈ new ↔ i < n ∧ Way g 0 i := fun i => ⟨fun hi => ⟨hlt i hi, hway i hi⟩, fun hi => hin i hi.2⟩
  obtain ⟨o, eo, mo⟩ := h.post
  have e0 : (dst0 n).post = [] := rfl
  have p0 : (dst0 n).pre = [] := rfl
  rw [e0, List.nil_append] at eo
  refine ⟨by rw [h.len]; simp [dst0], fun i hi => (hsee i hi).trans ((hiff i).trans (by simp [hi])), fun i => ?_, fun i => ?_, ?_, ?_⟩
  · rw [h.pre, p0, List.nil_append]; exact hiff i
  · rw [eo, mo]; exact hiff i
  · rw [h.pre, p0, List.nil_append]; exact h.nodup
  · exact h.outnd _ (by rw [e0, List.nil_append])
end Go.Proofs.Ytnkbbjeepdjamaa
/- Which places are reached, told by rounds: what a round keeps, and that as many rounds as there are places do. No condition. -/
namespace Go.Proofs.Ytnkbbjeepdjamaa
/-- One comes from the first to a place, without another one. -/
inductive WayO (g : Nat → List Nat) (wo : Int) : Nat → Prop
  | zero : wo ≠ 0 → WayO g wo 0
  | step {a c : Nat} : WayO g wo a → c ∈ g a → (c : Int) ≠ wo → WayO g wo c
def tr (s : List Bool) (i : Nat) : Bool := s.getD i false
def cnt (s : List Bool) : Nat := (s.filter id).length
theorem cnt_le (s : List Bool) : cnt s ≤ s.length := List.length_filter_le _ _
theorem tr_lt {s : List Bool} {i : Nat} (h : tr s i = true) : i < s.length := by
  apply Classical.byContradiction
  intro hn
  unfold tr at h
  rw [List.getD_eq_getElem?_getD, List.getElem?_eq_none (by omega)] at h
  simp at h
theorem tr_set {s : List Bool} {i j : Nat} (hj : j < s.length) : tr (s.set j true) i = (decide (i = j) || tr s i) := by
  unfold tr
  simp only [List.getD_eq_getElem?_getD, List.getElem?_set]
  by_cases e : j = i
  · subst e; simp [hj]
  · have : ¬ i = j := fun h => e h.symm
    simp [e, this]
theorem set_same {s : List Bool} {j : Nat} (h : tr s j = true) : s.set j true = s := by
  have hj := tr_lt h
  apply List.ext_getElem?
  intro k
  rw [List.getElem?_set]
  by_cases e : j = k
  · subst e
    unfold tr at h
    rw [List.getD_eq_getElem?_getD] at h
    rw [if_pos rfl, if_pos hj]
    rw [List.getElem?_eq_getElem hj] at h ⊢
    simp at h
    rw [h]
  · rw [if_neg e]
theorem cnt_mono {s t : List Bool} (hl : s.length = t.length) (h : ∀ i, tr s i = true → tr t i = true) : cnt s ≤ cnt t ∧ ((∃ j, tr t j = true ∧ tr s j = false) → cnt s < cnt t) := by
  induction s generalizing t with
  | nil =>
    have : t = [] := List.eq_nil_of_length_eq_zero hl.symm
    subst this
    exact ⟨Nat.le_refl _, fun ⟨j, h1, _⟩ => by simp [tr] at h1⟩
  | cons b s ih =>
    cases t with
    | nil => simp at hl
    | cons c t =>
      obtain ⟨h1, h2⟩ := ih (t := t) (by simpa using hl) (fun i hi => by have := h (i + 1) (by simpa [tr] using hi); simpa [tr] using this)
      have h0 := h 0
      simp only [tr, List.getD_cons_zero] at h0
      have hc : ∀ (b : Bool) (s : List Bool), cnt (b :: s) = (if b = true then 1 else 0) + cnt s := fun b s => by
        unfold cnt; cases b <;> simp [Nat.add_comm]
      rw [hc, hc]
      refine ⟨by cases b <;> cases c <;> simp_all <;> omega, fun ⟨j, hj1, hj2⟩ => ?_⟩
      cases j with
      | zero => simp [tr] at hj1 hj2; subst hj1; subst hj2; simp; omega
      | succ j =>
        have := h2 ⟨j, by simpa [tr] using hj1, by simpa [tr] using hj2⟩
        cases b <;> cases c <;> simp_all <;> omega
def Closed (g : Nat → List Nat) (wo : Int) (s : List Bool) : Prop := ∀ i j, tr s i = true → j ∈ g i → (j : Int) ≠ wo → tr s j = true
/-- A state of the reckoning. -/
structure RS (g : Nat → List Nat) (wo : Int) (n : Nat) (s : List Bool) : Prop where
  len : s.length = n
  sound : ∀ i, tr s i = true → WayO g wo i
  zero : tr s 0 = true
theorem RS.set {g : Nat → List Nat} {wo : Int} {n : Nat} {s : List Bool} (h : RS g wo n s) {i j : Nat} (hi : tr s i = true) (hj : j ∈ g i) (hw : (j : Int) ≠ wo) (hn : j < n) : RS g wo n (s.set j true) := by
  have hl : j < s.length := by rw [h.len]; exact hn
  refine ⟨by simp [h.len], fun k hk => ?_, by rw [tr_set hl, h.zero]; simp⟩
  rw [tr_set hl] at hk
  by_cases e : k = j
  · subst e; exact (h.sound i hi).step hj hw
  · simp [e] at hk; exact h.sound k hk
/-- In a round: the first rows are done; of the next one some. -/
structure Rnd (g : Nat → List Nat) (wo : Int) (n : Nat) (s0 s : List Bool) (i j : Nat) : Prop where
  rs : RS g wo n s
  more : ∀ x, tr s0 x = true → tr s x = true
  rows : ∀ x, x < i → tr s0 x = true → ∀ c ∈ g x, (c : Int) ≠ wo → tr s c = true
  part : ∀ c ∈ (g i).take j, (c : Int) ≠ wo → tr s c = true
  same : Closed g wo s0 → s = s0
section
variable {g : Nat → List Nat} {wo : Int} {n : Nat} {s0 s : List Bool} {i j : Nat}
theorem Rnd.start (h : RS g wo n s0) : Rnd g wo n s0 s0 0 0 := ⟨h, fun _ h => h, fun x hx => by omega, fun c hc => by simp at hc, fun _ => rfl⟩
theorem Rnd.skip (h : Rnd g wo n s0 s i 0) (hi : tr s i = false) : Rnd g wo n s0 s (i + 1) 0 := by
  refine ⟨h.rs, h.more, fun x hx h0 c hc hw => ?_, fun c hc => by simp at hc, h.same⟩
  rcases Nat.lt_or_ge x i with hx' | hx'
  · exact h.rows x hx' h0 c hc hw
  · obtain rfl : x = i := by omega
    have := h.more x h0
    rw [this] at hi
    cases hi
theorem Rnd.row (h : Rnd g wo n s0 s i j) (hj : (g i).length ≤ j) : Rnd g wo n s0 s (i + 1) 0 := by
  refine ⟨h.rs, h.more, fun x hx h0 c hc hw => ?_, fun c hc => by simp at hc, h.same⟩
  rcases Nat.lt_or_ge x i with hx' | hx'
  · exact h.rows x hx' h0 c hc hw
  · obtain rfl : x = i := by omega
    exact h.part c (by rw [List.take_of_length_le hj]; exact hc) hw
theorem take_snoc'' {α : Type} (l : List α) (k : Nat) (x : α) (h : l[k]? = some x) : l.take (k + 1) = l.take k ++ [x] := by
  rw [List.take_add_one, h]; rfl
theorem Rnd.pass (h : Rnd g wo n s0 s i j) {c : Nat} (hc : (g i)[j]? = some c) (hw : (c : Int) = wo) : Rnd g wo n s0 s i (j + 1) := by
  refine ⟨h.rs, h.more, h.rows, fun d hd hdw => ?_, h.same⟩
  rw [take_snoc'' _ _ _ hc] at hd
  rcases List.mem_append.1 hd with hd | hd
  · exact h.part d hd hdw
  · simp at hd; subst hd; exact absurd hw hdw
theorem Rnd.put (h : Rnd g wo n s0 s i j) {c : Nat} (hi : tr s i = true) (hc : (g i)[j]? = some c) (hw : (c : Int) ≠ wo) (hn : c < n) : Rnd g wo n s0 (s.set c true) i (j + 1) := by
  have hl : c < s.length := by rw [h.rs.len]; exact hn
  refine ⟨h.rs.set hi (List.mem_of_getElem? hc) hw hn, fun x hx => ?_, fun x hx h0 d hd hdw => ?_, fun d hd hdw => ?_, fun hcl => ?_⟩
  · rw [tr_set hl, h.more x hx]; simp
  · rw [tr_set hl, h.rows x hx h0 d hd hdw]; simp
  · rw [tr_set hl]
    rw [take_snoc'' _ _ _ hc] at hd
    rcases List.mem_append.1 hd with hd | hd
    · rw [h.part d hd hdw]; simp
    · simp at hd; subst hd; simp
  · have e := h.same hcl
    subst e
    exact set_same (hcl i c hi (List.mem_of_getElem? hc) hw)
/-- Behind a round: nothing is left to do, or there are more. -/
theorem Rnd.fin (h : Rnd g wo n s0 s n 0) (hl : s0.length = n) (k : Nat) (hk : Closed g wo s0 ∨ k + 1 ≤ cnt s0) : Closed g wo s ∨ k + 2 ≤ cnt s := by
  by_cases hc : Closed g wo s0
  · left; rw [h.same hc]; exact hc
  · right
    have hk' := hk.resolve_left hc
    unfold Closed at hc
    simp only [Classical.not_forall] at hc
    obtain ⟨i, j, h1, h2, h3, h4⟩ := hc
    have hi : i < n := by rw [← hl]; exact tr_lt h1
    have := (cnt_mono (by rw [hl, h.rs.len]) h.more).2 ⟨j, h.rows i hi h1 j h2 h3, by simpa using h4⟩
    omega
/-- When as many rounds are done as there are places. -/
theorem RS.done (h : RS g wo n s) (hk : Closed g wo s ∨ n + 1 ≤ cnt s) (i : Nat) : tr s i = true ↔ WayO g wo i := by
  have hc : Closed g wo s := hk.resolve_right (by have := cnt_le s; rw [h.len] at this; omega)
  refine ⟨h.sound i, fun hw => ?_⟩
  induction hw with
  | zero => exact h.zero
  | step _ h1 h2 ih => exact hc _ _ ih h1 h2
end
/-- Without any: the ways. -/
theorem wayO_all (g : Nat → List Nat) (i : Nat) : WayO g (-1) i ↔ Way g 0 i := by
  constructor
  · intro h
    induction h with
    | zero => exact .refl 0
    | step _ hc _ ih => exact ih.step hc
  · intro h
    induction h with
    | refl => exact .zero (by decide)
    | step _ hc ih => exact ih.step hc (by omega)
end Go.Proofs.Ytnkbbjeepdjamaa
/- Dominators, plain: what the tree tells of places. No condition. -/
namespace Go.Proofs.Ytnkbbjeepdjamaa
namespace LT
/-- a is over b: both are reached, b not without a. -/
def Ov (g : Nat → List Nat) (a b : Nat) : Prop := Way g 0 a ∧ Way g 0 b ∧ ¬ WayO g (a : Int) b
theorem wayO_self {g : Nat → List Nat} {a : Nat} : ¬ WayO g (a : Int) a := by
  intro h
  cases h with
  | zero h => exact h rfl
  | step _ _ h => exact h rfl
theorem ov_self {g : Nat → List Nat} {a : Nat} (h : Way g 0 a) : Ov g a a := ⟨h, h, wayO_self⟩
/-- The numbers of all places that are reached. -/
structure Nums (g : Nat → List Nat) (n : Nat) (s : VSt) : Prop where
  inv : Inv g n s
  zero : s.pre[0]? = some 0
  fin : ∀ i, i < s.pre.length → Fin g s i
section
variable {g : Nat → List Nat} {n : Nat} {s : VSt} (h : Nums g n s)
include h
theorem Nums.reach {v : Nat} : v ∈ s.pre ↔ Way g 0 v := by
  constructor
  · intro hv
    obtain ⟨j, hj, rfl⟩ := List.getElem_of_mem hv
    clear hv
    induction j using Nat.strongRecOn with
    | _ j ih =>
      by_cases h0 : j = 0
      · subst h0
        have := h.zero
        rw [List.getElem?_eq_getElem hj] at this
        rw [Option.some.inj this]; exact .refl 0
      · obtain ⟨h1, _, u, v, h3, h4, h5⟩ := h.inv.par j _ (by omega) (List.getElem?_eq_getElem (by rw [h.inv.len]; exact hj))
        have hq := (List.getElem?_eq_some_iff.1 h3).1
        have h6 := ih _ h1 hq
        rw [List.getElem?_eq_getElem hq] at h3
        rw [List.getElem?_eq_getElem hj] at h4
        rw [Option.some.inj h3] at h6
        rw [Option.some.inj h4]
        exact h6.step h5
  · intro hv
    induction hv with
    | refl => exact List.mem_of_getElem? h.zero
    | step _ hc ih =>
      obtain ⟨i, hi, rfl⟩ := List.getElem_of_mem ih
      obtain ⟨j, hj, _⟩ := h.fin i hi _ (List.getElem?_eq_getElem hi) _ hc
      exact List.mem_of_getElem? hj
theorem Nums.way {i a j b : Nat} (ha : s.pre[i]? = some a) (hb : s.pre[j]? = some b) : RA (En g s) i j ↔ WayO g (a : Int) b := by
  constructor
  · intro hr
    induction hr generalizing b with
    | root h0 =>
      have hz := h.zero
      rw [hz] at hb
      obtain rfl := Option.some.inj hb
      exact .zero (fun e => h0 (pre_inj h.inv.nd ha (by rw [hz]; congr 1; omega)))
    | @step t u hr he hne ih =>
      obtain ⟨x, y, h1, h2, h3⟩ := he
      rw [hb] at h2
      obtain rfl := Option.some.inj h2
      exact .step (ih h1) h3 (fun e => hne (pre_inj h.inv.nd hb (by rw [ha]; congr 1; omega)))
  · intro hw
    have key : ∃ j', s.pre[j']? = some b ∧ RA (En g s) i j' := by
      clear hb
      induction hw with
      | zero h0 => exact ⟨0, h.zero, .root (fun e => h0 (by subst e; have hz := h.zero; rw [ha] at hz; have := Option.some.inj hz; omega))⟩
      | @step x c hw hc hne ih =>
        obtain ⟨t, ht, hr⟩ := ih
        have htl := (List.getElem?_eq_some_iff.1 ht).1
        obtain ⟨u, hu, _⟩ := h.fin t htl x ht c hc
        exact ⟨u, hu, .step hr ⟨x, c, ht, hu, hc⟩ (fun e => hne (by subst e; rw [hu] at ha; have := Option.some.inj ha; omega))⟩
    obtain ⟨j', h1, h2⟩ := key
    obtain rfl := pre_inj h.inv.nd hb h1
    exact h2
theorem Nums.ov {i a j b : Nat} (ha : s.pre[i]? = some a) (hb : s.pre[j]? = some b) : ¬ RA (En g s) i j ↔ Ov g a b := by
  rw [h.way ha hb]
  exact ⟨fun hn => ⟨(h.reach).1 (List.mem_of_getElem? ha), (h.reach).1 (List.mem_of_getElem? hb), hn⟩, fun ho => ho.2.2⟩
theorem Nums.dfs : Dfs s.pre.length (En g s) (Abv s.pp) (fun j => s.pp.getD j 0) := vis_dfs h.inv h.fin
end
theorem nums0 (g : Nat → List Nat) (n : Nat) (hn : 0 < n) (hg : ∀ i, ∀ w ∈ g i, w < n) : Nums g n (vis0 g n) := by
  obtain ⟨h1, h2, h3⟩ := vis0_right g n hn hg
  exact ⟨h1, h2, h3⟩
/-- The nearest ones, as places. -/
structure Ups (g : Nat → List Nat) (n : Nat) (s : List Nat) (up : List Int) : Prop where
  len : up.length = n
  un : ∀ v, v < n → (∀ j, 0 < j → s[j]? ≠ some v) → up[v]? = some (-1)
  near : ∀ j v, 0 < j → s[j]? = some v → ∃ d u : Nat, d < j ∧ s[d]? = some u ∧ up[v]? = some (u : Int) ∧ ∀ a, (Ov g a v ↔ a = v ∨ Ov g a u)
theorem Second.ups {g : Nat → List Nat} {n : Nat} {s : VSt} (h : Nums g n s) {sd : Nat → Nat} {up : List Int} {i : Nat} (hs : Second s.pre (En g s) (Abv s.pp) sd n i up) (hi : s.pre.length ≤ i) : Ups g n s.pre up := by
  refine ⟨hs.lup, hs.un, fun j v h0 hv => ?_⟩
  have hj := (List.getElem?_eq_some_iff.1 hv).1
  obtain ⟨d, u, h1, h2, h3, h4⟩ := hs.near j v h0 (by omega) hv
  refine ⟨d, u, h3, h1, h2, fun a => ?_⟩
  by_cases ha : a ∈ s.pre
  · obtain ⟨k, hk, rfl⟩ := List.getElem_of_mem ha
    have hk' := List.getElem?_eq_getElem hk
    rw [← h.ov hk' hv, ← h.ov hk' h1, h4 k]
    refine or_congr ⟨fun e => ?_, fun e => ?_⟩ Iff.rfl
    · subst e; rw [hk'] at hv; exact Option.some.inj hv
    · exact pre_inj h.inv.nd hk' (by rw [e]; exact hv)
  · have hna : ¬ Way g 0 a := fun e => ha (h.reach.2 e)
    exact ⟨fun e => absurd e.1 hna, fun e => e.elim (fun e => absurd (by rw [e]; exact h.reach.1 (List.mem_of_getElem? hv)) hna) (fun e => absurd e.1 hna)⟩
/-- While the depths of the first k are told. -/
structure Deeps (n : Nat) (s : List Nat) (up : List Int) (k : Nat) (f : Nat → Nat) (deep : List Int) : Prop where
  len : deep.length = n
  un : ∀ v, v < n → (∀ j, j < k → s[j]? ≠ some v) → deep[v]? = some (-1)
  zero : f 0 = 0
  at_ : ∀ j v, j < k → s[j]? = some v → deep[v]? = some (f j : Int)
  par : ∀ j v, 0 < j → j < k → s[j]? = some v → ∃ d u : Nat, d < j ∧ s[d]? = some u ∧ up[v]? = some (u : Int) ∧ f j = f d + 1
theorem Deeps.start (n : Nat) (s : List Nat) (up : List Int) : Deeps n s up 0 (fun _ => 0) (List.replicate n (-1)) :=
  ⟨by simp, fun v hv _ => by simp [hv], rfl, fun j v h => by omega, fun j v _ h => by omega⟩
theorem Deeps.next {n k v d u : Nat} {s : List Nat} {up deep : List Int} {f : Nat → Nat} (h : Deeps n s up k f deep) (hnd : s.Nodup) (h0 : 0 < k) (hv : s[k]? = some v) (hvn : v < n) (hd : d < k) (hu : s[d]? = some u) (hup : up[v]? = some (u : Int)) :
    Deeps n s up (k + 1) (fun x => if x = k then f d + 1 else f x) (deep.set v ((f d + 1 : Nat) : Int)) := by
  have hvl : v < deep.length := by rw [h.len]; exact hvn
  have hne : ∀ j x, s[j]? = some x → j ≠ k → v ≠ x := fun j x hx hjk e => hjk (by subst e; exact pre_inj hnd hx hv)
  refine ⟨by simp [h.len], fun x hx hn => ?_, by simp [h.zero]; omega, fun j x hj hx => ?_, fun j x hj0 hj hx => ?_⟩
  · rw [List.getElem?_set_ne (fun e => hn k (by omega) (by rw [hv, e]))]
    exact h.un x hx (fun j hj => hn j (by omega))
  · by_cases e : j = k
    · subst e
      rw [hv] at hx
      obtain rfl := Option.some.inj hx
      rw [List.getElem?_set_self hvl]; simp
    · rw [List.getElem?_set_ne (hne j x hx e), h.at_ j x (by omega) hx]
      simp [e]
  · by_cases e : j = k
    · subst e
      rw [hv] at hx
      obtain rfl := Option.some.inj hx
      refine ⟨d, u, hd, hu, hup, ?_⟩
      simp; omega
    · obtain ⟨d', u', h1, h2, h3, h4⟩ := h.par j x hj0 (by omega) hx
      refine ⟨d', u', h1, h2, h3, ?_⟩
      rw [if_neg e, if_neg (by omega)]
      exact h4
theorem Deeps.first {n v : Nat} {s : List Nat} {up deep : List Int} {f : Nat → Nat} (h : Deeps n s up 0 f deep) (hv : s[0]? = some v) (hvn : v < n) : Deeps n s up 1 f (deep.set v 0) := by
  have hvl : v < deep.length := by rw [h.len]; exact hvn
  refine ⟨by simp [h.len], fun x hx hn => ?_, h.zero, fun j x hj hx => ?_, fun j x hj0 hj hx => by omega⟩
  · rw [List.getElem?_set_ne (fun e => hn 0 (by omega) (by rw [hv, e]))]
    exact h.un x hx (fun j hj => by omega)
  · obtain rfl : j = 0 := by omega
    rw [hv] at hx
    obtain rfl := Option.some.inj hx
    rw [List.getElem?_set_self hvl, h.zero]; rfl
theorem Deeps.le {n k : Nat} {s : List Nat} {up deep : List Int} {f : Nat → Nat} (h : Deeps n s up k f deep) : ∀ j, j < k → j < s.length → f j ≤ j := by
  intro j
  induction j using Nat.strongRecOn with
  | _ j ih =>
    intro hj hs
    by_cases h0 : j = 0
    · subst h0; rw [h.zero]; exact Nat.le_refl _
    · obtain ⟨d, _, h1, _, _, h2⟩ := h.par j _ (by omega) hj (List.getElem?_eq_getElem hs)
      have := ih d h1 (by omega) (by omega)
      omega
/-- The tree: the nearest ones and the depths. -/
structure DTree (g : Nat → List Nat) (n : Nat) (up deep : List Int) : Prop where
  lu : up.length = n
  ld : deep.length = n
  lt : ∀ v, Way g 0 v → v < n
  un : ∀ v, v < n → ¬ Way g 0 v → up[v]? = some (-1) ∧ deep[v]? = some (-1)
  zero : up[0]? = some (-1) ∧ deep[0]? = some 0
  near : ∀ v, Way g 0 v → v ≠ 0 → ∃ u d : Nat, Way g 0 u ∧ up[v]? = some (u : Int) ∧ deep[v]? = some ((d + 1 : Nat) : Int) ∧ deep[u]? = some (d : Int) ∧ ∀ a, (Ov g a v ↔ a = v ∨ Ov g a u)
theorem Deeps.tree {g : Nat → List Nat} {n : Nat} {s : VSt} (h : Nums g n s) {up deep : List Int} {f : Nat → Nat} {k : Nat} (hu : Ups g n s.pre up) (hd : Deeps n s.pre up k f deep) (hk : s.pre.length ≤ k) : DTree g n up deep := by
  have lt : ∀ v, Way g 0 v → v < n := fun v hv => h.inv.lt v (h.reach.2 hv)
  have hz0 : s.pre.length > 0 := (List.getElem?_eq_some_iff.1 h.zero).1
  refine ⟨hu.len, hd.len, lt, fun v hv hn => ⟨hu.un v hv (fun j _ e => hn (h.reach.1 (List.mem_of_getElem? e))), hd.un v hv (fun j _ e => hn (h.reach.1 (List.mem_of_getElem? e)))⟩, ⟨hu.un 0 (lt 0 (.refl 0)) (fun j h0 e => by have := pre_inj h.inv.nd h.zero e; omega), ?_⟩, fun v hv hv0 => ?_⟩
  · have := hd.at_ 0 0 (by omega) h.zero
    rw [this, hd.zero]; rfl
  · obtain ⟨j, hj, hje⟩ := List.getElem_of_mem (h.reach.2 hv)
    have hjv : s.pre[j]? = some v := by rw [List.getElem?_eq_getElem hj, hje]
    have hj0 : 0 < j := Nat.pos_of_ne_zero (fun e => hv0 (by subst e; rw [h.zero] at hjv; exact (Option.some.inj hjv).symm))
    obtain ⟨d, u, h1, h2, h3, h4⟩ := hu.near j v hj0 hjv
    obtain ⟨d', u', k1, k2, k3, k4⟩ := hd.par j v hj0 (by omega) hjv
    rw [h3] at k3
    have e : u = u' := by have := Option.some.inj k3; omega
    subst e
    obtain rfl := pre_inj h.inv.nd h2 k2
    exact ⟨u, f d, h.reach.1 (List.mem_of_getElem? h2), h3, by rw [hd.at_ j v (by omega) hjv, k4], hd.at_ d u (by omega) h2, h4⟩
section
variable {g : Nat → List Nat} {n : Nat} {up deep : List Int} (h : DTree g n up deep)
include h
theorem DTree.deep_of {v : Nat} (hv : Way g 0 v) : ∃ d : Nat, deep[v]? = some (d : Int) ∧ (d = 0 ↔ v = 0) := by
  by_cases e : v = 0
  · subst e; exact ⟨0, h.zero.2, by simp⟩
  · obtain ⟨u, d, _, _, h1, _⟩ := h.near v hv e
    exact ⟨d + 1, h1, by simp [e]⟩
/-- One over another one is no deeper; as deep, it is the same. -/
theorem DTree.le : ∀ (d : Nat) (a b : Nat) (c : Int), Ov g a b → deep[b]? = some (d : Int) → deep[a]? = some c → c ≤ d ∧ (c = d → a = b)
  | d, a, b, c, ho, hd, hc => by
    by_cases hb : b = 0
    · subst hb
      have ha : a = 0 := Classical.byContradiction fun hn => ho.2.2 (.zero (by omega))
      subst ha
      rw [hd] at hc
      exact ⟨by have := Option.some.inj hc; omega, fun _ => rfl⟩
    · obtain ⟨u, d', h1, h2, h3, h4, h5⟩ := h.near b ho.2.1 hb
      rw [hd] at h3
      have e := Option.some.inj h3
      rcases (h5 a).1 ho with rfl | hu
      · rw [hd] at hc
        exact ⟨by have := Option.some.inj hc; omega, fun _ => rfl⟩
      · have := DTree.le d' a u c hu h4 hc
        exact ⟨by omega, fun e => by omega⟩
termination_by d => d
decreasing_by omega
end
end LT
end Go.Proofs.Ytnkbbjeepdjamaa
/- Dominators, plain: those over a place stand in a row. No condition. -/
namespace Go.Proofs.Ytnkbbjeepdjamaa
namespace LT
section
variable {g : Nat → List Nat} {n : Nat} {up deep : List Int} (h : DTree g n up deep)
include h
/-- Those over a place: as many as it is deep, and one. -/
theorem DTree.row : ∀ (d v : Nat), Way g 0 v → deep[v]? = some (d : Int) → ∃ c : List Nat, c.length = d + 1 ∧ c.Nodup ∧ ∀ a, a ∈ c ↔ Ov g a v
  | d, v, hw, hd => by
    by_cases h0 : v = 0
    · subst h0
      have hz := h.zero.2
      rw [hd] at hz
      have hd0 : d = 0 := by have := Option.some.inj hz; omega
      refine ⟨[0], by simp [hd0], by simp, fun a => ?_⟩
      rw [List.mem_singleton]
      refine ⟨fun e => by subst e; exact ov_self hw, fun ho => Classical.byContradiction fun hn => ho.2.2 (.zero (by omega))⟩
    · obtain ⟨u, d', h1, h2, h3, h4, h5⟩ := h.near v hw h0
      rw [hd] at h3
      have e := Option.some.inj h3
      obtain ⟨c, c1, c2, c3⟩ := DTree.row d' u h1 h4
      refine ⟨v :: c, by simp; omega, List.nodup_cons.2 ⟨fun hm => ?_, c2⟩, fun a => by rw [List.mem_cons, c3, h5]⟩
      have := (h.le d' v u (d : Int) ((c3 v).1 hm) h4 hd).1
      omega
termination_by d => d
decreasing_by omega
theorem DTree.pair : ∀ (d v a b : Nat), deep[v]? = some (d : Int) → Ov g a v → Ov g b v → Ov g a b ∨ Ov g b a
  | d, v, a, b, hd, ha, hb => by
    by_cases h0 : v = 0
    · subst h0
      have ea : a = 0 := Classical.byContradiction fun hn => ha.2.2 (.zero (by omega))
      subst ea
      exact .inr hb
    · obtain ⟨u, d', h1, h2, h3, h4, h5⟩ := h.near v ha.2.1 h0
      rw [hd] at h3
      have e := Option.some.inj h3
      rcases (h5 a).1 ha with rfl | ha'
      · exact .inr hb
      · rcases (h5 b).1 hb with rfl | hb'
        · exact .inl ha
        · exact DTree.pair d' u a b h4 ha' hb'
termination_by d => d
decreasing_by omega
end
/-- Those below k that are over v. -/
noncomputable def overs (g : Nat → List Nat) (v k : Nat) : List Nat := (List.range k).filter (fun a => @decide (Ov g a v) (Classical.propDecidable _))
theorem overs_succ (g : Nat → List Nat) (v k : Nat) : (Ov g k v → (overs g v (k + 1)).length = (overs g v k).length + 1) ∧ (¬ Ov g k v → (overs g v (k + 1)).length = (overs g v k).length) := by
  unfold overs
  rw [List.range_succ, List.filter_append]
  constructor
  · intro h; simp [h]
  · intro h; simp [h]
theorem overs_le (g : Nat → List Nat) (v k : Nat) : (overs g v k).length ≤ k := by
  unfold overs
  exact Nat.le_trans (List.length_filter_le _ _) (by simp)
theorem DTree.many {g : Nat → List Nat} {n : Nat} {up deep : List Int} (h : DTree g n up deep) {d v : Nat} (hw : Way g 0 v) (hd : deep[v]? = some (d : Int)) : (overs g v n).length = d + 1 := by
  obtain ⟨c, c1, c2, c3⟩ := h.row d v hw hd
  have hp : (overs g v n).Perm c := (List.perm_ext_iff_of_nodup (List.Pairwise.filter _ List.nodup_range) c2).2 (fun a => by
    rw [c3]
    try unfold overs
    rw [List.mem_filter, List.mem_range]
    simp only [decide_eq_true_eq]
    exact ⟨fun e => e.2, fun e => ⟨h.lt a e.1, e⟩⟩)
  rw [hp.length_eq, c1]
theorem overs_none {g : Nat → List Nat} {v : Nat} (hn : ¬ Way g 0 v) (k : Nat) : (overs g v k).length = 0 := by
  induction k with
  | zero => rfl
  | succ k ih => rw [(overs_succ g v k).2 (fun e => hn e.2.1), ih]
/-- One over one over a place is over it. -/
theorem DTree.trans {g : Nat → List Nat} {n : Nat} {up deep : List Int} (h : DTree g n up deep) : ∀ (d v a b : Nat), deep[v]? = some (d : Int) → Ov g a v → Ov g b a → Ov g b v
  | d, v, a, b, hd, ha, hb => by
    by_cases h0 : v = 0
    · subst h0
      have e : a = 0 := Classical.byContradiction fun hn => ha.2.2 (.zero (by omega))
      subst e
      exact hb
    · obtain ⟨u, d', h1, h2, h3, h4, h5⟩ := h.near v ha.2.1 h0
      rw [hd] at h3
      have e := Option.some.inj h3
      rcases (h5 a).1 ha with rfl | ha'
      · exact hb
      · exact (h5 b).2 (.inr (DTree.trans h d' u a b h4 ha' hb))
termination_by d => d
decreasing_by omega
/-- One step up from one over v. -/
theorem DTree.step {g : Nat → List Nat} {n : Nat} {up deep : List Int} (h : DTree g n up deep) {dv v c dc : Nat} (hd : deep[v]? = some (dv : Int)) (ho : Ov g c v) (hc : deep[c]? = some (dc : Int)) :
    ∃ x : Int, up[c]? = some x ∧ ((dc = 0 ∧ x = -1) ∨ ∃ u d' : Nat, x = (u : Int) ∧ u < n ∧ Ov g u v ∧ dc = d' + 1 ∧ deep[u]? = some (d' : Int)) := by
  by_cases h0 : c = 0
  · subst h0
    have hz := h.zero.2
    rw [hc] at hz
    exact ⟨-1, h.zero.1, .inl ⟨by have := Option.some.inj hz; omega, rfl⟩⟩
  · obtain ⟨u, d', h1, h2, h3, h4, h5⟩ := h.near c ho.1 h0
    rw [hc] at h3
    have e := Option.some.inj h3
    exact ⟨(u : Int), h2, .inr ⟨u, d', rfl, h.lt u h1, h.trans dv v c u hd ho ((h5 u).2 (.inr (ov_self h1))), by omega, h4⟩⟩
end LT
end Go.Proofs.Ytnkbbjeepdjamaa
