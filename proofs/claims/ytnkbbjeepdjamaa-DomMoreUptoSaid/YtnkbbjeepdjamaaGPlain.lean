/- Depth first through a graph, told by a plain function: what is seen, what is met, what is left. No condition. -/
namespace Go.Proofs.Ytnkbbjeepdjamaa

/-- What a walk has done: which places are seen, those met, those left. -/
structure DSt where
  seen : List Bool
  pre : List Nat
  post : List Nat
def dfs (g : Nat → List Nat) : Nat → Nat → DSt → DSt
  | 0, _, s => s
  | k + 1, v, s => (fun s2 : DSt => { s2 with post := s2.post ++ [v] }) ((g v).foldl (fun s w => if s.seen.getD w true = true then s else dfs g k w s) { s with seen := s.seen.set v true, pre := s.pre ++ [v] })
/-- The places behind one, gone to one after the other. -/
def dfsL (g : Nat → List Nat) (k : Nat) (l : List Nat) (s : DSt) : DSt := l.foldl (fun s w => if s.seen.getD w true = true then s else dfs g k w s) s
def DSt.enter (s : DSt) (v : Nat) : DSt := { s with seen := s.seen.set v true, pre := s.pre ++ [v] }
def DSt.leave (s : DSt) (v : Nat) : DSt := { s with post := s.post ++ [v] }
theorem dfs_succ (g : Nat → List Nat) (k v : Nat) (s : DSt) : dfs g (k + 1) v s = (dfsL g k (g v) (s.enter v)).leave v := by
  rw [dfs]; rfl
theorem dfsL_nil (g : Nat → List Nat) (k : Nat) (s : DSt) : dfsL g k [] s = s := rfl
theorem dfsL_cons (g : Nat → List Nat) (k w : Nat) (l : List Nat) (s : DSt) : dfsL g k (w :: l) s = dfsL g k l (if s.seen.getD w true = true then s else dfs g k w s) := rfl
theorem dfsL_snoc (g : Nat → List Nat) (k w : Nat) (l : List Nat) (s : DSt) : dfsL g k (l ++ [w]) s = if (dfsL g k l s).seen.getD w true = true then dfsL g k l s else dfs g k w (dfsL g k l s) := by
  unfold dfsL; rw [List.foldl_append]; rfl
/-- How many are not seen. -/
def unseen (l : List Bool) : Nat := (l.filter (fun b => !b)).length
theorem unseen_set {l : List Bool} {v : Nat} (h : l.getD v true = false) : unseen (l.set v true) + 1 = unseen l := by
  induction l generalizing v with
  | nil => simp at h
  | cons b l ih =>
    cases v with
    | zero => simp at h; subst h; simp [unseen]
    | succ v =>
      have := ih (v := v) (by simpa using h)
      unfold unseen at *
      cases b <;> simp <;> omega
/-- Which places come, out of which state, into which. -/
structure Ran (g : Nat → List Nat) (s s' : DSt) (new : List Nat) : Prop where
  len : s'.seen.length = s.seen.length
  seen : ∀ i, s'.seen.getD i true = true ↔ (s.seen.getD i true = true ∨ i ∈ new)
  pre : s'.pre = s.pre ++ new
  nodup : new.Nodup
  fresh : ∀ i ∈ new, s.seen.getD i true = false
theorem Ran.refl (g : Nat → List Nat) (s : DSt) : Ran g s s [] := ⟨rfl, by simp, by simp, by simp, by simp⟩
theorem Ran.trans {g : Nat → List Nat} {a b c : DSt} {l m : List Nat} (h : Ran g a b l) (k : Ran g b c m) : Ran g a c (l ++ m) :=
  ⟨k.len.trans h.len, fun i => by rw [k.seen, h.seen, List.mem_append, or_assoc], by rw [k.pre, h.pre, List.append_assoc],
   List.nodup_append.2 ⟨h.nodup, k.nodup, fun x hx y hy e => by
    subst e
    have := k.fresh x hy
    rw [(h.seen x).2 (.inr hx)] at this; cases this⟩,
   fun i hi => by
    rcases List.mem_append.1 hi with hi | hi
    · exact h.fresh i hi
    · have := k.fresh i hi
      cases hs : a.seen.getD i true with
      | false => rfl
      | true => rw [(h.seen i).2 (.inl hs)] at this; cases this⟩
theorem Ran.leave {g : Nat → List Nat} {a b : DSt} {l : List Nat} (h : Ran g a b l) (v : Nat) : Ran g a (b.leave v) l := ⟨h.len, h.seen, h.pre, h.nodup, h.fresh⟩
theorem getD_set {l : List Bool} {v i : Nat} (b : Bool) : (l.set v b).getD i true = if i = v ∧ v < l.length then b else l.getD i true := by
  simp only [List.getD_eq_getElem?_getD, List.getElem?_set]
  by_cases h : v = i
  · subst h
    by_cases hl : v < l.length
    · simp [hl]
    · simp [hl]
  · rw [if_neg h, if_neg (by omega)]
theorem getD_lt {l : List Bool} {v : Nat} (h : l.getD v true = false) : v < l.length := by
  apply Classical.byContradiction
  intro hn
  rw [List.getD_eq_getElem?_getD, List.getElem?_eq_none (by omega)] at h
  simp at h
theorem Ran.enter (g : Nat → List Nat) {s : DSt} {v : Nat} (h : s.seen.getD v true = false) : Ran g s (s.enter v) [v] :=
  ⟨by simp [DSt.enter], fun i => by
    simp only [DSt.enter, getD_set, List.mem_singleton]
    by_cases e : i = v
    · subst e; simp [getD_lt h]
    · simp [e], rfl, by simp, fun i hi => by simp at hi; rw [hi]; exact h⟩
theorem Ran.unseen {g : Nat → List Nat} {a b : DSt} {l : List Nat} (h : Ran g a b l) : unseen b.seen ≤ unseen a.seen := by
  have key : ∀ (x y : List Bool), x.length = y.length → (∀ i, x.getD i true = true → y.getD i true = true) → Proofs.Ytnkbbjeepdjamaa.unseen y ≤ Proofs.Ytnkbbjeepdjamaa.unseen x := by
    intro x
    induction x with
    | nil => intro y hl _; cases y with
      | nil => exact Nat.le_refl _
      | cons => simp at hl
    | cons b x ih =>
      intro y hl hm
      cases y with
      | nil => simp at hl
      | cons c y =>
        have := ih y (by simpa using hl) (fun i hi => by simpa using hm (i + 1) (by simpa using hi))
        have h0 := hm 0
        simp at h0
        unfold Proofs.Ytnkbbjeepdjamaa.unseen at *
        cases b <;> cases c <;> simp_all <;> omega
  exact key _ _ h.len.symm (fun i hi => (h.seen i).2 (.inl hi))
/-- One reaches another one, by ways. -/
inductive Way (g : Nat → List Nat) : Nat → Nat → Prop
  | refl (v : Nat) : Way g v v
  | step {a b c : Nat} : Way g a b → c ∈ g b → Way g a c
theorem Way.trans {g : Nat → List Nat} {a b c : Nat} (h : Way g a b) (k : Way g b c) : Way g a c := by
  induction k with
  | refl => exact h
  | step _ hc ih => exact ih.step hc
theorem Way.head {g : Nat → List Nat} {a b c : Nat} (h : b ∈ g a) (k : Way g b c) : Way g a c := Way.trans (.step (.refl a) h) k
/-- What a walk with enough fuel does. -/
structure Did (g : Nat → List Nat) (from_ : Nat → Prop) (s s' : DSt) (new : List Nat) : Prop extends Ran g s s' new where
  closed : ∀ u ∈ new, ∀ w ∈ g u, s'.seen.getD w true = true
  way : ∀ u ∈ new, ∃ v, from_ v ∧ Way g v u
  post : ∃ out, s'.post = s.post ++ out ∧ ∀ i, i ∈ out ↔ i ∈ new
  outnd : ∀ out, s'.post = s.post ++ out → out.Nodup
theorem dfs_did (g : Nat → List Nat) : ∀ (k v : Nat) (s : DSt), s.seen.getD v true = false → unseen s.seen ≤ k → ∃ new, Did g (· = v) s (dfs g k v s) new ∧ v ∈ new
  | 0, v, s, hv, hk => by have := unseen_set hv; omega
  | k + 1, v, s, hv, hk => by
    have hen := Ran.enter g hv
    have hku : unseen (s.enter v).seen ≤ k := by have := unseen_set hv; simp only [DSt.enter]; omega
    have key : ∀ (l : List Nat) (a : DSt), unseen a.seen ≤ k → ∃ new, Did g (· ∈ l) a (dfsL g k l a) new ∧ ∀ w ∈ l, (dfsL g k l a).seen.getD w true = true := by
      intro l
      induction l with
      | nil => intro a _; exact ⟨[], ⟨Ran.refl g a, by simp, by simp, ⟨[], by simp [dfsL_nil], by simp⟩, fun out h => by rw [dfsL_nil] at h; rw [List.self_eq_append_right.1 h]; exact List.nodup_nil⟩, by simp⟩
      | cons w l ih =>
        intro a ha
        rw [dfsL_cons]
        by_cases hw : a.seen.getD w true = true
        · rw [if_pos hw]
          obtain ⟨new, h, hl⟩ := ih a ha
          refine ⟨new, ⟨h.toRan, h.closed, fun u hu => ?_, h.post, h.outnd⟩, fun x hx => ?_⟩
          · obtain ⟨v, h1, h2⟩ := h.way u hu; exact ⟨v, by simp [h1], h2⟩
          · rcases List.mem_cons.1 hx with rfl | hx
            · exact (h.seen x).2 (.inl hw)
            · exact hl x hx
        · rw [if_neg hw]
          obtain ⟨n1, h1, hv1⟩ := dfs_did g k w a (by simpa using hw) ha
          obtain ⟨n2, h2, hl⟩ := ih (dfs g k w a) (Nat.le_trans h1.unseen ha)
          have hr := h1.toRan.trans h2.toRan
          obtain ⟨o1, e1, m1⟩ := h1.post
          obtain ⟨o2, e2, m2⟩ := h2.post
          refine ⟨n1 ++ n2, ⟨hr, fun u hu y hy => ?_, fun u hu => ?_, ⟨o1 ++ o2, by rw [e2, e1, List.append_assoc], fun i => by rw [List.mem_append, List.mem_append, m1, m2]⟩, fun out ho => ?_⟩, fun x hx => ?_⟩
          · rcases List.mem_append.1 hu with hu | hu
            · exact (h2.seen y).2 (.inl (h1.closed u hu y hy))
            · exact h2.closed u hu y hy
          · rcases List.mem_append.1 hu with hu | hu
            · obtain ⟨v, rfl, hwy⟩ := h1.way u hu; exact ⟨v, by simp, hwy⟩
            · obtain ⟨v, hv, hw⟩ := h2.way u hu; exact ⟨v, by simp [hv], hw⟩
          · have : out = o1 ++ o2 := by
              rw [e2, e1, List.append_assoc] at ho
              exact (List.append_cancel_left ho).symm
            rw [this]
            exact List.nodup_append.2 ⟨h1.outnd _ e1, h2.outnd _ e2, fun x hx y hy e => by
              subst e
              have := h2.fresh x ((m2 x).1 hy)
              rw [(h1.seen x).2 (.inr ((m1 x).1 hx))] at this; cases this⟩
          · rcases List.mem_cons.1 hx with rfl | hx
            · exact (h2.seen x).2 (.inl ((h1.seen x).2 (.inr hv1)))
            · exact hl x hx
    obtain ⟨new, h, hl⟩ := key (g v) (s.enter v) hku
    rw [dfs_succ]
    have hr := (hen.trans h.toRan).leave v
    obtain ⟨o, eo, mo⟩ := h.post
    have hvn : v ∉ new := fun hm => by
      have := h.fresh v hm
      rw [(hen.seen v).2 (.inr (by simp))] at this; cases this
    refine ⟨[v] ++ new, ⟨hr, fun u hu w hw => ?_, fun u hu => ?_, ⟨o ++ [v], ?_, fun i => ?_⟩, fun out ho => ?_⟩, by simp⟩
    · rcases List.mem_append.1 hu with hu | hu
      · simp at hu; subst hu; exact hl w hw
      · exact h.closed u hu w hw
    · rcases List.mem_append.1 hu with hu | hu
      · simp at hu; subst hu; exact ⟨u, rfl, .refl u⟩
      · obtain ⟨x, hx, hw⟩ := h.way u hu; exact ⟨v, rfl, hw.head hx⟩
    · show (dfsL g k (g v) (s.enter v)).post ++ [v] = _
      rw [eo]; simp [DSt.enter]
    · simp [mo, or_comm]
    · have : out = o ++ [v] := by
        have e : ((dfsL g k (g v) (s.enter v)).leave v).post = s.post ++ (o ++ [v]) := by
          show (dfsL g k (g v) (s.enter v)).post ++ [v] = _
          rw [eo]; simp [DSt.enter]
        rw [e] at ho
        exact (List.append_cancel_left ho).symm
      rw [this]
      exact List.nodup_append.2 ⟨h.outnd _ eo, by simp, fun x hx y hy e => by
        simp at hy; subst hy; subst e; exact hvn ((mo x).1 hx)⟩
/-- What is met or left is no longer unseen. -/
theorem dfs_count (g : Nat → List Nat) : ∀ (k v : Nat) (s : DSt), s.seen.getD v true = false →
    (dfs g k v s).pre.length + unseen (dfs g k v s).seen = s.pre.length + unseen s.seen ∧ (dfs g k v s).post.length + unseen (dfs g k v s).seen = s.post.length + unseen s.seen ∧ unseen (dfs g k v s).seen ≤ unseen s.seen ∧ (dfs g k v s).seen.length = s.seen.length
  | 0, _, _, _ => ⟨rfl, rfl, Nat.le_refl _, rfl⟩
  | k + 1, v, s, hv => by
    have key : ∀ (l : List Nat) (a : DSt), (dfsL g k l a).pre.length + unseen (dfsL g k l a).seen = a.pre.length + unseen a.seen ∧ (dfsL g k l a).post.length + unseen (dfsL g k l a).seen = a.post.length + unseen a.seen ∧ unseen (dfsL g k l a).seen ≤ unseen a.seen ∧ (dfsL g k l a).seen.length = a.seen.length := by
      intro l
      induction l with
      | nil => intro a; exact ⟨rfl, rfl, Nat.le_refl _, rfl⟩
      | cons w l ih =>
        intro a
        rw [dfsL_cons]
        by_cases hw : a.seen.getD w true = true
        · rw [if_pos hw]; exact ih a
        · rw [if_neg hw]
          obtain ⟨h1, h2, h3, h4⟩ := dfs_count g k w a (by simpa using hw)
          obtain ⟨k1, k2, k3, k4⟩ := ih (dfs g k w a)
          exact ⟨k1.trans h1, k2.trans h2, Nat.le_trans k3 h3, k4.trans h4⟩
    have hs := unseen_set hv
    obtain ⟨h1, h2, h3, h4⟩ := key (g v) (s.enter v)
    rw [dfs_succ]
    simp only [DSt.enter, DSt.leave, List.length_append, List.length_singleton, List.length_set] at *
    exact ⟨by omega, by omega, by omega, h4⟩
theorem dfsL_count (g : Nat → List Nat) (k : Nat) : ∀ (l : List Nat) (a : DSt), (dfsL g k l a).pre.length + unseen (dfsL g k l a).seen = a.pre.length + unseen a.seen ∧ (dfsL g k l a).post.length + unseen (dfsL g k l a).seen = a.post.length + unseen a.seen ∧ unseen (dfsL g k l a).seen ≤ unseen a.seen ∧ (dfsL g k l a).seen.length = a.seen.length := by
  intro l
  induction l with
  | nil => intro a; exact ⟨rfl, rfl, Nat.le_refl _, rfl⟩
  | cons w l ih =>
    intro a
    rw [dfsL_cons]
    by_cases hw : a.seen.getD w true = true
    · rw [if_pos hw]; exact ih a
    · rw [if_neg hw]
      obtain ⟨h1, h2, h3, h4⟩ := dfs_count g k w a (by simpa using hw)
      obtain ⟨k1, k2, k3, k4⟩ := ih (dfs g k w a)
      exact ⟨k1.trans h1, k2.trans h2, Nat.le_trans k3 h3, k4.trans h4⟩
/-- From the first, none seen. -/
def dst0 (n : Nat) : DSt := ⟨List.replicate n false, [], []⟩
def dfs0 (g : Nat → List Nat) (n : Nat) : DSt := if n = 0 then dst0 n else dfs g n 0 (dst0 n)
theorem unseen_replicate (n : Nat) : unseen (List.replicate n false) = n := by
  unfold unseen; simp
theorem dst0_seen (n i : Nat) : (dst0 n).seen.getD i true = decide (¬ i < n) := by
  simp only [dst0, List.getD_eq_getElem?_getD, List.getElem?_replicate]
  by_cases h : i < n <;> simp [h]
/-- The whole walk: those that are reached are seen, met once, left once. -/
structure Whole (g : Nat → List Nat) (n : Nat) (s : DSt) : Prop where
  len : s.seen.length = n
  seen : ∀ i, i < n → (s.seen.getD i true = true ↔ Way g 0 i)
  pre : ∀ i, i ∈ s.pre ↔ i < n ∧ Way g 0 i
  post : ∀ i, i ∈ s.post ↔ i < n ∧ Way g 0 i
  prend : s.pre.Nodup
  postnd : s.post.Nodup
theorem dfs0_whole (g : Nat → List Nat) (n : Nat) (hn : 0 < n) (hg : ∀ i, ∀ w ∈ g i, w < n) : Whole g n (dfs0 g n) := by
  unfold dfs0
  rw [if_neg (by omega)]
  obtain ⟨new, h, h0⟩ := dfs_did g n 0 (dst0 n) (by rw [dst0_seen]; simp; omega) (by simp [dst0, unseen_replicate])
  have hlt : ∀ i ∈ new, i < n := fun i hi => by
    have := h.fresh i hi; rw [dst0_seen] at this; simpa using this
  have hway : ∀ i ∈ new, Way g 0 i := fun i hi => by obtain ⟨v, rfl, hw⟩ := h.way i hi; exact hw
  have hsee : ∀ i, i < n → ((dfs g n 0 (dst0 n)).seen.getD i true = true ↔ i ∈ new) := fun i hi => by
    rw [h.seen, dst0_seen]; simp [hi]
  have hin : ∀ i, Way g 0 i → i ∈ new := by
    intro i hi
    induction hi with
    | refl => exact h0
    | step _ hc ih => exact (hsee _ (hg _ _ hc)).1 (h.closed _ ih _ hc)
  have hiff : ∀ i, i ∈ new ↔ i < n ∧ Way g 0 i := fun i => ⟨fun hi => ⟨hlt i hi, hway i hi⟩, fun hi => hin i hi.2⟩
  obtain ⟨o, eo, mo⟩ := h.post
  have e0 : (dst0 n).post = [] := rfl
  have p0 : (dst0 n).pre = [] := rfl
  rw [e0, List.nil_append] at eo
  refine ⟨by rw [h.len]; simp [dst0], fun i hi => (hsee i hi).trans ((hiff i).trans (by simp [hi])), fun i => ?_, fun i => ?_, ?_, ?_⟩
  · rw [h.pre, p0, List.nil_append]; exact hiff i
  · rw [eo, mo]; exact hiff i
  · rw [h.pre, p0, List.nil_append]; exact h.nodup
  · exact h.outnd _ (by rw [e0, List.nil_append])
end Go.Proofs.Ytnkbbjeepdjamaa
