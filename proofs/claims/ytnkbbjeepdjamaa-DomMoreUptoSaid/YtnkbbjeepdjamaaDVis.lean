/- Numbers depth first, with parents, told by a plain function: they are as DTree's law asks. No condition. -/
import Derived.Test.YtnkbbjeepdjamaaDTree
namespace Go.Proofs.Ytnkbbjeepdjamaa
namespace LT
/-- What a visit has done: the places met, the numbers of their parents. -/
structure VSt where
  pre : List Nat
  pp : List Nat
def VSt.push (s : VSt) (v q : Nat) : VSt := ⟨s.pre ++ [v], s.pp ++ [q]⟩
def vis (g : Nat → List Nat) : Nat → Nat → Nat → VSt → VSt
  | 0, _, _, s => s
  | k + 1, v, q, s => (g v).foldl (fun a w => if w ∈ a.pre then a else vis g k w s.pre.length a) (s.push v q)
def visL (g : Nat → List Nat) (k i : Nat) (l : List Nat) (s : VSt) : VSt := l.foldl (fun a w => if w ∈ a.pre then a else vis g k w i a) s
theorem vis_succ (g : Nat → List Nat) (k v q : Nat) (s : VSt) : vis g (k + 1) v q s = visL g k s.pre.length (g v) (s.push v q) := by rw [vis]; rfl
theorem visL_nil (g : Nat → List Nat) (k i : Nat) (s : VSt) : visL g k i [] s = s := rfl
theorem visL_cons (g : Nat → List Nat) (k i w : Nat) (l : List Nat) (s : VSt) : visL g k i (w :: l) s = visL g k i l (if w ∈ s.pre then s else vis g k w i s) := rfl
theorem visL_snoc (g : Nat → List Nat) (k i w : Nat) (l : List Nat) (s : VSt) : visL g k i (l ++ [w]) s = if w ∈ (visL g k i l s).pre then visL g k i l s else vis g k w i (visL g k i l s) := by
  unfold visL; rw [List.foldl_append]; rfl
/-- Who is above whom, by the parents' numbers. -/
inductive Abv (pp : List Nat) (i : Nat) : Nat → Prop
  | refl : i < pp.length → Abv pp i i
  | step {j q : Nat} : 0 < j → pp[j]? = some q → Abv pp i q → Abv pp i j
theorem getElem?_app {l m : List Nat} {j q : Nat} (h : l[j]? = some q) : (l ++ m)[j]? = some q := by
  have := (List.getElem?_eq_some_iff.1 h).1
  rw [List.getElem?_append_left this]; exact h
theorem Abv.mono {pp : List Nat} {i j : Nat} (h : Abv pp i j) (m : List Nat) : Abv (pp ++ m) i j := by
  induction h with
  | refl hi => exact .refl (by simp; omega)
  | step h0 hq _ ih => exact .step h0 (getElem?_app hq) ih
theorem Abv.trans {pp : List Nat} {i j k : Nat} (h : Abv pp i j) (hk : Abv pp j k) : Abv pp i k := by
  induction hk with
  | refl => exact h
  | step h0 hq _ ih => exact .step h0 hq ih
theorem Abv.lt {pp : List Nat} {i j : Nat} (h : Abv pp i j) : j < pp.length := by
  cases h with
  | refl hi => exact hi
  | step _ hq _ => exact (List.getElem?_eq_some_iff.1 hq).1
/-- What stands of the numbers at any time. -/
structure Inv (g : Nat → List Nat) (n : Nat) (s : VSt) : Prop where
  len : s.pp.length = s.pre.length
  nd : s.pre.Nodup
  lt : ∀ v ∈ s.pre, v < n
  par : ∀ j q, 0 < j → s.pp[j]? = some q → q < j ∧ Abv s.pp q (j - 1) ∧ ∃ u v, s.pre[q]? = some u ∧ s.pre[j]? = some v ∧ v ∈ g u
theorem Inv.push {g : Nat → List Nat} {n : Nat} {s : VSt} (h : Inv g n s) {v q : Nat} (hv : v < n) (hn : v ∉ s.pre) (hq : 0 < s.pre.length → Abv s.pp q (s.pre.length - 1) ∧ q < s.pre.length ∧ ∃ u, s.pre[q]? = some u ∧ v ∈ g u) :
    Inv g n (s.push v q) := by
  refine ⟨by simp [VSt.push, h.len], ?_, ?_, ?_⟩
  · refine List.nodup_append.2 ⟨h.nd, by simp, fun x hx y hy e => ?_⟩
    simp at hy; subst hy; subst e; exact hn hx
  · intro x hx
    rcases List.mem_append.1 hx with hx | hx
    · exact h.lt x hx
    · simp at hx; omega
  · intro j q' h0 hj
    simp only [VSt.push] at hj ⊢
    rcases Nat.lt_or_ge j s.pp.length with hl | hl
    · rw [List.getElem?_append_left hl] at hj
      obtain ⟨h1, h2, u, w, h3, h4, h5⟩ := h.par j q' h0 hj
      exact ⟨h1, h2.mono _, u, w, getElem?_app h3, getElem?_app h4, h5⟩
    · have hjl := (List.getElem?_eq_some_iff.1 hj).1
      simp at hjl
      obtain rfl : j = s.pp.length := by omega
      rw [List.getElem?_append_right (Nat.le_refl _), Nat.sub_self] at hj
      obtain rfl : q = q' := by simpa using hj
      have hlen := h.len
      obtain ⟨h1, h2, u, h3, h4⟩ := hq (by omega)
      rw [hlen]
      exact ⟨h2, h1.mono _, u, v, getElem?_app h3, by simp, h4⟩
/-- A number whose places behind are all met; those met later are below it. -/
def Fin (g : Nat → List Nat) (s : VSt) (i : Nat) : Prop := ∀ u, s.pre[i]? = some u → ∀ w ∈ g u, ∃ j, s.pre[j]? = some w ∧ (i < j → Abv s.pp i j)
/-- One state grows into another one. -/
def Ext (s s' : VSt) : Prop := ∃ l m, s'.pre = s.pre ++ l ∧ s'.pp = s.pp ++ m
theorem Ext.refl (s : VSt) : Ext s s := ⟨[], [], by simp, by simp⟩
theorem Ext.trans {a b c : VSt} (h : Ext a b) (k : Ext b c) : Ext a c := by
  obtain ⟨l, m, h1, h2⟩ := h
  obtain ⟨l', m', k1, k2⟩ := k
  exact ⟨l ++ l', m ++ m', by rw [k1, h1, List.append_assoc], by rw [k2, h2, List.append_assoc]⟩
theorem Ext.push (s : VSt) (v q : Nat) : Ext s (s.push v q) := ⟨[v], [q], rfl, rfl⟩
theorem Ext.len {a b : VSt} (h : Ext a b) : a.pre.length ≤ b.pre.length := by
  obtain ⟨l, m, h1, _⟩ := h; rw [h1]; simp
theorem Ext.pre {a b : VSt} (h : Ext a b) {j v : Nat} (hj : a.pre[j]? = some v) : b.pre[j]? = some v := by
  obtain ⟨l, m, h1, _⟩ := h; rw [h1]; exact getElem?_app hj
theorem Ext.pp {a b : VSt} (h : Ext a b) {j v : Nat} (hj : a.pp[j]? = some v) : b.pp[j]? = some v := by
  obtain ⟨l, m, _, h1⟩ := h; rw [h1]; exact getElem?_app hj
theorem Ext.abv {a b : VSt} (h : Ext a b) {i j : Nat} (hj : Abv a.pp i j) : Abv b.pp i j := by
  obtain ⟨l, m, _, h1⟩ := h; rw [h1]; exact hj.mono _
theorem Ext.mem {a b : VSt} (h : Ext a b) {v : Nat} (hj : v ∈ a.pre) : v ∈ b.pre := by
  obtain ⟨l, m, h1, _⟩ := h; rw [h1]; exact List.mem_append_left _ hj
theorem Fin.ext {g : Nat → List Nat} {a b : VSt} {i : Nat} (h : Fin g a i) (he : Ext a b) (hi : i < a.pre.length) : Fin g b i := by
  intro u hu w hw
  have hu' := he.pre (List.getElem?_eq_getElem hi)
  rw [hu'] at hu
  obtain ⟨j, h1, h2⟩ := h _ (List.getElem?_eq_getElem hi) w (by simp at hu; rw [hu]; exact hw)
  exact ⟨j, he.pre h1, fun hl => he.abv (h2 hl)⟩
/-- A visit with enough fuel. -/
structure Vis (g : Nat → List Nat) (n : Nat) (s s' : VSt) : Prop where
  inv : Inv g n s'
  ext : Ext s s'
  fin : ∀ i, s.pre.length ≤ i → i < s'.pre.length → Fin g s' i
theorem room : ∀ {n : Nat} {l : List Nat}, l.Nodup → (∀ v ∈ l, v < n) → l.length ≤ n
  | 0, l, _, h => by
    cases l with
    | nil => exact Nat.le_refl _
    | cons a l => exact absurd (h a List.mem_cons_self) (by omega)
  | n + 1, l, hnd, h => by
    by_cases hm : n ∈ l
    · have h1 := List.length_erase_of_mem hm
      have h2 := room (n := n) (hnd.erase n) (fun v hv => by
        have h3 := (hnd.mem_erase_iff).1 hv
        have := h v h3.2
        omega)
      omega
    · have := room (n := n) hnd (fun v hv => by
        have := h v hv
        have : v ≠ n := fun e => hm (e ▸ hv)
        omega)
      omega
theorem vis_right (g : Nat → List Nat) (n : Nat) (hg : ∀ i, ∀ w ∈ g i, w < n) : ∀ (k v q : Nat) (s : VSt), Inv g n s → v < n → v ∉ s.pre → n ≤ s.pre.length + k →
    (0 < s.pre.length → Abv s.pp q (s.pre.length - 1) ∧ q < s.pre.length ∧ ∃ u, s.pre[q]? = some u ∧ v ∈ g u) →
    Vis g n (s.push v q) (vis g k v q s) ∧ Fin g (vis g k v q s) s.pre.length ∧ ∀ j, s.pre.length ≤ j → j < (vis g k v q s).pre.length → Abv (vis g k v q s).pp s.pre.length j
  | 0, v, q, s, hi, hv, hn, hk, hq => by
    have h1 := room (hi.push hv hn hq).nd (hi.push hv hn hq).lt
    simp [VSt.push] at h1
    omega
  | k + 1, v, q, s, hi, hv, hn, hk, hq => by
    have hp := hi.push hv hn hq
    have hi0 : (s.push v q).pre[s.pre.length]? = some v := by simp [VSt.push]
    have key : ∀ (l : List Nat) (a : VSt), (∀ w ∈ l, w ∈ g v) → Inv g n a → Ext (s.push v q) a → (∀ j, s.pre.length ≤ j → j < a.pre.length → Abv a.pp s.pre.length j) →
        Vis g n a (visL g k s.pre.length l a) ∧ (∀ j, s.pre.length ≤ j → j < (visL g k s.pre.length l a).pre.length → Abv (visL g k s.pre.length l a).pp s.pre.length j) ∧ ∀ w ∈ l, w ∈ (visL g k s.pre.length l a).pre := by
      intro l
      induction l with
      | nil => intro a _ ha _ hb; exact ⟨⟨ha, Ext.refl a, fun i h1 h2 => by rw [visL_nil] at h2; omega⟩, hb, by simp⟩
      | cons w l ih =>
        intro a hl ha he hb
        rw [visL_cons]
        have hl' : ∀ x ∈ l, x ∈ g v := fun x hx => hl x (List.mem_cons_of_mem _ hx)
        by_cases hw : w ∈ a.pre
        · rw [if_pos hw]
          obtain ⟨h1, h2, h3⟩ := ih a hl' ha he hb
          refine ⟨h1, h2, fun x hx => ?_⟩
          rcases List.mem_cons.1 hx with rfl | hx
          · exact h1.ext.mem hw
          · exact h3 x hx
        · rw [if_neg hw]
          have hlen := he.len
          have hl1 : (s.push v q).pre.length = s.pre.length + 1 := by simp [VSt.push]
          obtain ⟨d1, d2, d3⟩ := vis_right g n hg k w s.pre.length a ha (hg v w (hl w List.mem_cons_self)) hw (by omega) (fun _ => ⟨hb _ (by omega) (by omega), by omega, v, he.pre hi0, hl w List.mem_cons_self⟩)
          have hea : Ext a (vis g k w s.pre.length a) := (Ext.push a w _).trans d1.ext
          have hea1 := d1.ext.len
          have hl2 : (a.push w s.pre.length).pre.length = a.pre.length + 1 := by simp [VSt.push]
          have hst : Abv (vis g k w s.pre.length a).pp s.pre.length a.pre.length := by
            refine .step (by omega) (q := s.pre.length) (d1.ext.pp ?_) ((hea.abv (hb _ (Nat.le_refl _) (by omega))))
            simp [VSt.push, ← ha.len]
          obtain ⟨h1, h2, h3⟩ := ih (vis g k w s.pre.length a) hl' d1.inv (he.trans hea) (fun j hj1 hj2 => by
            rcases Nat.lt_or_ge j a.pre.length with hja | hja
            · exact hea.abv (hb j hj1 hja)
            · exact hst.trans (d3 j hja hj2))
          refine ⟨⟨h1.inv, hea.trans h1.ext, fun i hi1 hi2 => ?_⟩, h2, fun x hx => ?_⟩
          · rcases Nat.lt_or_ge i (vis g k w s.pre.length a).pre.length with hl3 | hl3
            · rcases Nat.lt_or_ge a.pre.length i with hl4 | hl4
              · exact (d1.fin i (by omega) hl3).ext h1.ext hl3
              · obtain rfl : i = a.pre.length := by omega
                exact d2.ext h1.ext hl3
            · exact h1.fin i hl3 hi2
          · rcases List.mem_cons.1 hx with rfl | hx
            · exact h1.ext.mem (d1.ext.mem (by simp [VSt.push]))
            · exact h3 x hx
    have hl1 : (s.push v q).pre.length = s.pre.length + 1 := by simp [VSt.push]
    have hpl : s.pre.length < (s.push v q).pp.length := by rw [hp.len]; omega
    obtain ⟨h1, h2, h3⟩ := key (g v) (s.push v q) (fun w hw => hw) hp (Ext.refl _) (fun j hj1 hj2 => by
      obtain rfl : j = s.pre.length := by omega
      exact .refl hpl)
    rw [vis_succ]
    refine ⟨h1, fun u hu w hw => ?_, h2⟩
    rw [h1.ext.pre hi0] at hu
    injection hu with hu
    subst hu
    obtain ⟨j, hj, hje⟩ := List.getElem_of_mem (h3 w hw)
    exact ⟨j, by rw [List.getElem?_eq_getElem hj, hje], fun hlt => h2 j (by omega) hj⟩
/-- The whole visit, from the first. -/
def vis0 (g : Nat → List Nat) (n : Nat) : VSt := vis g n 0 0 ⟨[], []⟩
theorem vis0_right (g : Nat → List Nat) (n : Nat) (hn : 0 < n) (hg : ∀ i, ∀ w ∈ g i, w < n) :
    Inv g n (vis0 g n) ∧ (vis0 g n).pre[0]? = some 0 ∧ ∀ i, i < (vis0 g n).pre.length → Fin g (vis0 g n) i := by
  have h0 : Inv g n ⟨[], []⟩ := ⟨rfl, by simp, by simp, by simp⟩
  obtain ⟨h1, h2, h3⟩ := vis_right g n hg n 0 0 ⟨[], []⟩ h0 hn (by simp) (by simp) (fun h => by simp at h)
  refine ⟨h1.inv, h1.ext.pre (by simp [VSt.push]), fun i hi => ?_⟩
  rcases Nat.eq_zero_or_pos i with rfl | h
  · exact h2
  · exact h1.fin i (by simp [VSt.push]; omega) hi
/-- The ways between numbers. -/
def En (g : Nat → List Nat) (s : VSt) (i j : Nat) : Prop := ∃ u v, s.pre[i]? = some u ∧ s.pre[j]? = some v ∧ v ∈ g u
theorem abv_int {g : Nat → List Nat} {n : Nat} {s : VSt} (h : Inv g n s) : ∀ (d a b c : Nat), c - b = d → Abv s.pp a c → a ≤ b → b ≤ c → Abv s.pp a b
  | 0, a, b, c, hd, hac, _, hb => by
    obtain rfl : b = c := by omega
    exact hac
  | d + 1, a, b, c, hd, hac, ha, hb => by
    cases hac with
    | refl => omega
    | step h0 hq hr =>
      obtain ⟨h1, h2, _⟩ := h.par _ _ h0 hq
      exact abv_int h d a b (c - 1) (by omega) (hr.trans h2) ha (by omega)
theorem abv_le {g : Nat → List Nat} {n : Nat} {s : VSt} (h : Inv g n s) {i j : Nat} (ha : Abv s.pp i j) : i ≤ j := by
  induction ha with
  | refl => exact Nat.le_refl _
  | step h0 hq _ ih => have := (h.par _ _ h0 hq).1; omega
/-- The numbers are as the law asks. -/
theorem vis_dfs {g : Nat → List Nat} {n : Nat} {s : VSt} (h : Inv g n s) (hf : ∀ i, i < s.pre.length → Fin g s i) :
    Dfs s.pre.length (En g s) (Abv s.pp) (fun j => s.pp.getD j 0) := by
  have hpp : ∀ j, j < s.pre.length → s.pp[j]? = some (s.pp.getD j 0) := fun j hj => by
    rw [List.getD_eq_getElem?_getD, List.getElem?_eq_getElem (by rw [h.len]; exact hj)]; rfl
  refine ⟨fun i j ha => ⟨abv_le h ha, by rw [← h.len]; exact ha.lt⟩, fun i hi => .refl (by rw [h.len]; exact hi), fun i j k => Abv.trans, fun a b c h1 h2 h3 => abv_int h _ a b c rfl h1 h2 h3, fun j h0 hj => ?_, fun i j ha hne => ?_, fun i j he => ?_, fun i j he hlt => ?_, fun j h0 hj => ?_⟩
  · have h1 := h.par j _ h0 (hpp j hj)
    exact ⟨h1.1, .step h0 (hpp j hj) (.refl (by rw [h.len]; omega))⟩
  · cases ha with
    | refl => exact absurd rfl hne
    | step h0 hq hr => rw [List.getD_eq_getElem?_getD, hq]; exact hr
  · obtain ⟨u, v, h1, h2, _⟩ := he
    exact ⟨(List.getElem?_eq_some_iff.1 h1).1, (List.getElem?_eq_some_iff.1 h2).1⟩
  · obtain ⟨u, v, h1, h2, h3⟩ := he
    obtain ⟨hi, _⟩ := List.getElem?_eq_some_iff.1 h1
    obtain ⟨k, k1, k2⟩ := hf i hi u h1 v h3
    obtain ⟨hj, hje⟩ := List.getElem?_eq_some_iff.1 h2
    obtain ⟨hk, hke⟩ := List.getElem?_eq_some_iff.1 k1
    obtain rfl : j = k := (List.getElem_inj h.nd).1 (hje.trans hke.symm)
    exact k2 hlt
  · obtain ⟨_, _, u, v, h1, h2, h3⟩ := h.par j _ h0 (hpp j hj)
    exact ⟨u, v, h1, h2, h3⟩
end LT
end Go.Proofs.Ytnkbbjeepdjamaa
