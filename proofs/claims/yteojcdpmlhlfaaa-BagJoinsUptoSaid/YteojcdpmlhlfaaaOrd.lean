/- Plain facts on rising lists: where an item belongs, the list with it, the list without it; two rising lists of the same items are one. Condition: the order is strict and total. -/
namespace Go.Proofs.Yteojcdpmlhlfaaa

structure LinOrd {α : Type} (lt : α → α → Bool) : Prop where
  irrefl : ∀ a, lt a a = false
  trans : ∀ a b c, lt a b = true → lt b c = true → lt a c = true
  total : ∀ a b, a ≠ b → lt a b = true ∨ lt b a = true

section
variable {α : Type} (lt : α → α → Bool)
def Srt (l : List α) : Prop := l.Pairwise (fun a b => lt a b = true)
def lbd (x : α) (l : List α) : Nat := (l.takeWhile (fun y => lt y x)).length
def ins [DecidableEq α] (x : α) (l : List α) : List α := if x ∈ l then l else l.take (lbd lt x l) ++ x :: l.drop (lbd lt x l)
def del [DecidableEq α] (x : α) (l : List α) : List α := l.filter (fun y => decide (y ≠ x))
variable {lt}

theorem LinOrd.asymm (o : LinOrd lt) {a b : α} (h : lt a b = true) : lt b a = false := by
  cases e : lt b a
  · rfl
  · have := o.trans _ _ _ h e; rw [o.irrefl] at this; cases this
theorem LinOrd.eq_of (o : LinOrd lt) {a b : α} (h : lt a b = false) (h' : lt b a = false) : a = b := by
  rcases Classical.em (a = b) with e | e
  · exact e
  · rcases o.total a b e with k | k
    · rw [h] at k; cases k
    · rw [h'] at k; cases k

theorem lbd_le (x : α) (l : List α) : lbd lt x l ≤ l.length := by
  unfold lbd; exact (List.takeWhile_sublist _).length_le
theorem lbd_cons (x y : α) (l : List α) : lbd lt x (y :: l) = if lt y x = true then lbd lt x l + 1 else 0 := by
  unfold lbd; rw [List.takeWhile_cons]; split <;> simp_all
theorem lbd_below (x : α) : ∀ (l : List α) (j : Nat) (y : α), j < lbd lt x l → l[j]? = some y → lt y x = true
  | [], j, y, h, hy => by simp at hy
  | a :: l, j, y, h, hy => by
    rw [lbd_cons] at h
    split at h
    · cases j with
      | zero => simp at hy; subst hy; assumption
      | succ j => exact lbd_below x l j y (by omega) (by simpa using hy)
    · omega
theorem lbd_above (o : LinOrd lt) (x : α) : ∀ (l : List α), Srt lt l → ∀ (j : Nat) (y : α), lbd lt x l ≤ j → l[j]? = some y → lt y x = false
  | [], _, j, y, h, hy => by simp at hy
  | a :: l, hs, j, y, h, hy => by
    obtain ⟨h1, h2⟩ := List.pairwise_cons.1 hs
    rw [lbd_cons] at h
    split at h
    · cases j with
      | zero => omega
      | succ j => exact lbd_above o x l h2 j y (by omega) (by simpa using hy)
    · rename_i hn
      have hn' : lt a x = false := by simpa using hn
      cases j with
      | zero => simp at hy; subst hy; exact hn'
      | succ j =>
        have hm : y ∈ l := List.mem_of_getElem? (by simpa using hy)
        cases e : lt y x
        · rfl
        · have := o.trans _ _ _ (h1 y hm) e
          rw [hn'] at this; cases this
/-- The place is known by what lies ahead of it and behind it. -/
theorem lbd_of (o : LinOrd lt) (x : α) (l : List α) (hs : Srt lt l) (i : Nat) (hi : i ≤ l.length) (h1 : ∀ j y, j < i → l[j]? = some y → lt y x = true) (h2 : ∀ j y, i ≤ j → l[j]? = some y → lt y x = false) : lbd lt x l = i := by
  rcases Nat.lt_trichotomy (lbd lt x l) i with h | h | h
  · have hl : lbd lt x l < l.length := by omega
    have a := lbd_above o x l hs _ _ (Nat.le_refl _) (List.getElem?_eq_getElem hl)
    rw [h1 _ _ h (List.getElem?_eq_getElem hl)] at a; cases a
  · exact h
  · have hl : i < l.length := by have := lbd_le (lt := lt) x l; omega
    have a := lbd_below x l _ _ h (List.getElem?_eq_getElem hl)
    rw [h2 _ _ (Nat.le_refl _) (List.getElem?_eq_getElem hl)] at a; cases a
/-- An item is there, if it stands at its place. -/
theorem mem_iff (o : LinOrd lt) (x : α) (l : List α) (hs : Srt lt l) : x ∈ l ↔ l[lbd lt x l]? = some x := by
  constructor
  · intro h
    obtain ⟨i, hi⟩ := List.mem_iff_getElem?.1 h
    have h1 : ∀ j y, j < i → l[j]? = some y → lt y x = true := by
      intro j y hj hy
      obtain ⟨hl, e⟩ := List.getElem?_eq_some_iff.1 hi
      obtain ⟨hl', e'⟩ := List.getElem?_eq_some_iff.1 hy
      have := List.pairwise_iff_getElem.1 hs j i hl' hl hj
      rw [e, e'] at this; exact this
    have h2 : ∀ j y, i ≤ j → l[j]? = some y → lt y x = false := by
      intro j y hj hy
      rcases Nat.lt_or_ge i j with hlt | hge
      · obtain ⟨hl, e⟩ := List.getElem?_eq_some_iff.1 hi
        obtain ⟨hl', e'⟩ := List.getElem?_eq_some_iff.1 hy
        have := List.pairwise_iff_getElem.1 hs i j hl hl' hlt
        rw [e, e'] at this; exact o.asymm this
      · obtain rfl : i = j := by omega
        rw [hi] at hy; cases hy; exact o.irrefl _
    rw [lbd_of o x l hs i (Nat.le_of_lt (List.getElem?_eq_some_iff.1 hi).1) h1 h2]; exact hi
  · exact fun h => List.mem_of_getElem? h
theorem mem_ins [DecidableEq α] (x y : α) (l : List α) : y ∈ ins lt x l ↔ y = x ∨ y ∈ l := by
  unfold ins
  split
  · rename_i h
    constructor
    · exact Or.inr
    · rintro (rfl | h') <;> assumption
  · have : y ∈ l ↔ y ∈ l.take (lbd lt x l) ∨ y ∈ l.drop (lbd lt x l) := by
      conv => lhs; rw [← List.take_append_drop (lbd lt x l) l]
      rw [List.mem_append]
    rw [this]; simp only [List.mem_append, List.mem_cons]
    constructor
    · rintro (h | h | h)
      · exact .inr (.inl h)
      · exact .inl h
      · exact .inr (.inr h)
    · rintro (h | h | h)
      · exact .inr (.inl h)
      · exact .inl h
      · exact .inr (.inr h)
theorem srt_ins [DecidableEq α] (o : LinOrd lt) (x : α) (l : List α) (hs : Srt lt l) : Srt lt (ins lt x l) := by
  unfold ins
  split
  · exact hs
  · rename_i hx
    have hs' : Srt lt (l.take (lbd lt x l) ++ l.drop (lbd lt x l)) := by rw [List.take_append_drop]; exact hs
    obtain ⟨a, b, c⟩ := List.pairwise_append.1 hs'
    refine List.pairwise_append.2 ⟨a, List.pairwise_cons.2 ⟨?_, b⟩, ?_⟩
    · intro y hy
      obtain ⟨j, hj⟩ := List.mem_iff_getElem?.1 hy
      rw [List.getElem?_drop] at hj
      have h1 := lbd_above o x l hs _ _ (by omega) hj
      rcases o.total x y (fun e => hx (by rw [e]; exact List.mem_of_getElem? hj)) with k | k
      · exact k
      · rw [h1] at k; cases k
    · intro y hy z hz
      rcases List.mem_cons.1 hz with rfl | hz
      · obtain ⟨j, hj⟩ := List.mem_iff_getElem?.1 hy
        rw [List.getElem?_take] at hj
        split at hj
        · exact lbd_below _ l _ _ (by assumption) hj
        · cases hj
      · exact c y hy z hz
theorem length_ins [DecidableEq α] (x : α) (l : List α) : (ins lt x l).length = if x ∈ l then l.length else l.length + 1 := by
  unfold ins; split
  · rfl
  · have := lbd_le (lt := lt) x l
    simp; omega
theorem mem_del [DecidableEq α] (x y : α) (l : List α) : y ∈ del x l ↔ y ∈ l ∧ y ≠ x := by unfold del; simp
theorem srt_del [DecidableEq α] (x : α) (l : List α) (hs : Srt lt l) : Srt lt (del x l) := List.Pairwise.filter _ hs
theorem del_not [DecidableEq α] (x : α) (l : List α) (h : x ∉ l) : del x l = l := by
  unfold del; rw [List.filter_eq_self]; intro a ha; simp; rintro rfl; exact h ha
theorem del_at [DecidableEq α] (o : LinOrd lt) (x : α) (l : List α) (hs : Srt lt l) (h : x ∈ l) : del x l = l.take (lbd lt x l) ++ l.drop (lbd lt x l + 1) := by
  have hm := (mem_iff o x l hs).1 h
  obtain ⟨hlt, he⟩ := List.getElem?_eq_some_iff.1 hm
  have hsplit : l = l.take (lbd lt x l) ++ x :: l.drop (lbd lt x l + 1) := by
    conv => lhs; rw [← List.take_append_drop (lbd lt x l) l]
    rw [List.drop_eq_getElem_cons hlt, he]
  have h1 : ∀ y ∈ l.take (lbd lt x l), y ≠ x := by
    rintro y hy rfl
    obtain ⟨j, hj⟩ := List.mem_iff_getElem?.1 hy
    rw [List.getElem?_take] at hj
    split at hj
    · have := lbd_below _ l _ _ (by assumption) hj
      rw [o.irrefl] at this; cases this
    · cases hj
  have hs2 := hs
  rw [hsplit] at hs2
  obtain ⟨_, b, _⟩ := List.pairwise_append.1 hs2
  have h2 : ∀ y ∈ l.drop (lbd lt x l + 1), y ≠ x := by
    rintro y hy rfl
    have := (List.pairwise_cons.1 b).1 _ hy
    rw [o.irrefl] at this; cases this
  unfold del
  conv => lhs; rw [hsplit]
  rw [List.filter_append, List.filter_cons]
  rw [List.filter_eq_self.2 (fun a ha => by simpa using h1 a ha), List.filter_eq_self.2 (fun a ha => by simpa using h2 a ha)]
  simp
theorem srt_nodup (o : LinOrd lt) {l : List α} (hs : Srt lt l) : l.Nodup := by
  refine hs.imp ?_
  rintro a b h rfl
  rw [o.irrefl] at h; cases h
theorem srt_ext (o : LinOrd lt) : ∀ (l l' : List α), Srt lt l → Srt lt l' → (∀ x, x ∈ l ↔ x ∈ l') → l = l'
  | [], [], _, _, _ => rfl
  | [], b :: l', _, _, h => by have := (h b).2 (by simp); simp at this
  | a :: l, [], _, _, h => by have := (h a).1 (by simp); simp at this
  | a :: l, b :: l', hs, hs', h => by
    obtain ⟨h1, h2⟩ := List.pairwise_cons.1 hs
    obtain ⟨h1', h2'⟩ := List.pairwise_cons.1 hs'
    have hab : a = b := by
      rcases List.mem_cons.1 ((h a).1 (by simp)) with e | e
      · exact e
      · rcases List.mem_cons.1 ((h b).2 (by simp)) with e' | e'
        · exact e'.symm
        · have := o.trans _ _ _ (h1 b e') (h1' a e)
          rw [o.irrefl] at this; cases this
    subst hab
    have : l = l' := by
      refine srt_ext o l l' h2 h2' fun x => ?_
      constructor
      · intro hx
        rcases List.mem_cons.1 ((h x).1 (by simp [hx])) with e | e
        · subst e
          have := h1 x hx; rw [o.irrefl] at this; cases this
        · exact e
      · intro hx
        rcases List.mem_cons.1 ((h x).2 (by simp [hx])) with e | e
        · subst e
          have := h1' x hx; rw [o.irrefl] at this; cases this
        · exact e
    rw [this]
end
def ltI (a b : Int) : Bool := decide (a < b)
theorem ordI : LinOrd ltI := ⟨fun a => by simp [ltI], fun a b c h k => by simp [ltI] at *; omega, fun a b h => by simp [ltI]; omega⟩
end Go.Proofs.Yteojcdpmlhlfaaa
