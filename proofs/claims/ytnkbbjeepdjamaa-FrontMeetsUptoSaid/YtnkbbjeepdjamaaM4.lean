/- Plain facts on rising lists: where an item belongs, the list with it, the list without it; two rising lists of the same items are one. Condition: the order is strict and total. -/
import Derived.Test.YtnkbbjeepdjamaaProg
import Derived.WalkKit
import Derived.WalkLawsBesides
import Derived.WalkSpells
import Derived.BigQuiet
import Derived.Lib.Hide
import Derived.Test.YtnkbbjeepdjamaaM2
import Derived.Lib.Walk
import Derived.Lib.SliceRun
import Derived.Lib.JoinLaws
import Derived.Lib.AppendZerosOnto
import Derived.Lib.Overlaps
import Derived.Laws.Externs
import Derived.Laws.IdiomCopy
import Derived.Deep.RegionLaw
import Derived.Maps.AppendAt
namespace Go.Proofs.Ytnkbbjeepdjamaa

structure LinOrd {α : Type} (lt : α → α → Bool) : Prop where
  irrefl : ∀ a, lt a a = false
  trans : ∀ a b c, lt a b = true → lt b c = true → lt a c = true
  total : ∀ a b, a ≠ b → lt a b = true ∨ lt b a = true

section
variable {α : Type} (lt : α → α → Bool)
def Srt (l : List α) : Prop := l.Pairwise (fun a b => lt a b = true)
def lbd (x : α) (l : List α) : Nat := (l.takeWhile (fun y => lt y x)).length
def ins [DecidableEq α] (x : α) (l : List α) : List α := if x ∈ l then l else l.take (lbd lt x l) ++ x :: l.drop (lbd lt x l)
def del [DecidableEq α] (x : α) (l : List α) : List α := l.filter (fun y => decide (y ≠ x))
variable {lt}

theorem LinOrd.asymm (o : LinOrd lt) {a b : α} (h : lt a b = true) : lt b a = false := by
  cases e : lt b a
  · rfl
  · have := o.trans _ _ _ h e; rw [o.irrefl] at this; cases this
theorem LinOrd.eq_of (o : LinOrd lt) {a b : α} (h : lt a b = false) (h' : lt b a = false) : a = b := by
  rcases Classical.em (a = b) with e | e
  · exact e
  · rcases o.total a b e with k | k
    · rw [h] at k; cases k
    · rw [h'] at k; cases k

theorem lbd_le (x : α) (l : List α) : lbd lt x l ≤ l.length := by
  unfold lbd; exact (List.takeWhile_sublist _).length_le
theorem lbd_cons (x y : α) (l : List α) : lbd lt x (y :: l) = if lt y x = true then lbd lt x l + 1 else 0 := by
  unfold lbd; rw [List.takeWhile_cons]; split <;> simp_all
theorem lbd_below (x : α) : ∀ (l : List α) (j : Nat) (y : α), j < lbd lt x l → l[j]? = some y → lt y x = true
  | [], j, y, h, hy => by simp at hy
  | a :: l, j, y, h, hy => by
    rw [lbd_cons] at h
    split at h
    · cases j with
      | zero => simp at hy; subst hy; assumption
      | succ j => exact lbd_below x l j y (by omega) (by simpa using hy)
    · omega
theorem lbd_above (o : LinOrd lt) (x : α) : ∀ (l : List α), Srt lt l → ∀ (j : Nat) (y : α), lbd lt x l ≤ j → l[j]? = some y → lt y x = false
  | [], _, j, y, h, hy => by simp at hy
  | a :: l, hs, j, y, h, hy => by
    obtain ⟨h1, h2⟩ := List.pairwise_cons.1 hs
    rw [lbd_cons] at h
    split at h
    · cases j with
      | zero => omega
      | succ j => exact lbd_above o x l h2 j y (by omega) (by simpa using hy)
    · rename_i hn
      have hn' : lt a x = false := by simpa using hn
      cases j with
      | zero => simp at hy; subst hy; exact hn'
      | succ j =>
        have hm : y ∈ l := List.mem_of_getElem? (by simpa using hy)
        cases e : lt y x
        · rfl
        · have := o.trans _ _ _ (h1 y hm) e
          rw [hn'] at this; cases this
/-- The place is known by what lies ahead of it and behind it. -/
theorem lbd_of (o : LinOrd lt) (x : α) (l : List α) (hs : Srt lt l) (i : Nat) (hi : i ≤ l.length) (h1 : ∀ j y, j < i → l[j]? = some y → lt y x = true) (h2 : ∀ j y, i ≤ j → l[j]? = some y → lt y x = false) : lbd lt x l = i := by
  rcases Nat.lt_trichotomy (lbd lt x l) i with h | h | h
  · have hl : lbd lt x l < l.length := by omega
    have a := lbd_above o x l hs _ _ (Nat.le_refl _) (List.getElem?_eq_getElem hl)
    rw [h1 _ _ h (List.getElem?_eq_getElem hl)] at a; cases a
  · exact h
  · have hl : i < l.length := by have := lbd_le (lt := lt) x l; omega
    have a := lbd_below x l _ _ h (List.getElem?_eq_getElem hl)
    rw [h2 _ _ (Nat.le_refl _) (List.getElem?_eq_getElem hl)] at a; cases a
/-- An item is there, if it stands at its place. -/
theorem mem_iff (o : LinOrd lt) (x : α) (l : List α) (hs : Srt lt l) : x ∈ l ↔ l[lbd lt x l]? = some x := by
  constructor
  · intro h
    obtain ⟨i, hi⟩ := List.mem_iff_getElem?.1 h
    have h1 : ∀ j y, j < i → l[j]? = some y → lt y x = true := by
      intro j y hj hy
      obtain ⟨hl, e⟩ := List.getElem?_eq_some_iff.1 hi
      obtain ⟨hl', e'⟩ := List.getElem?_eq_some_iff.1 hy
      have := List.pairwise_iff_getElem.1 hs j i hl' hl hj
      rw [e, e'] at this; exact this
    have h2 : ∀ j y, i ≤ j → l[j]? = some y → lt y x = false := by
      intro j y hj hy
      rcases Nat.lt_or_ge i j with hlt | hge
      · obtain ⟨hl, e⟩ := List.getElem?_eq_some_iff.1 hi
        obtain ⟨hl', e'⟩ := List.getElem?_eq_some_iff.1 hy
        have := List.pairwise_iff_getElem.1 hs i j hl hl' hlt
        rw [e, e'] at this; exact o.asymm this
      · obtain rfl : i = j := by omega
        rw [hi] at hy; cases hy; exact o.irrefl _
    rw [lbd_of o x l hs i (Nat.le_of_lt (List.getElem?_eq_some_iff.1 hi).1) h1 h2]; exact hi
  · exact fun h => List.mem_of_getElem? h
theorem mem_ins [DecidableEq α] (x y : α) (l : List α) : y ∈ ins lt x l ↔ y = x ∨ y ∈ l := by
  unfold ins
  split
  · rename_i h
    constructor
    · exact Or.inr
    · rintro (rfl | h') <;> assumption
  · have : y ∈ l ↔ y ∈ l.take (lbd lt x l) ∨ y ∈ l.drop (lbd lt x l) := by
      conv => lhs; rw [← List.take_append_drop (lbd lt x l) l]
      rw [List.mem_append]
    rw [this]; simp only [List.mem_append, List.mem_cons]
    constructor
    · rintro (h | h | h)
      · exact .inr (.inl h)
      · exact .inl h
      · exact .inr (.inr h)
    · rintro (h | h | h)
      · exact .inr (.inl h)
      · exact .inl h
      · exact .inr (.inr h)
theorem srt_ins [DecidableEq α] (o : LinOrd lt) (x : α) (l : List α) (hs : Srt lt l) : Srt lt (ins lt x l) := by
  unfold ins
  split
  · exact hs
  · rename_i hx
    have hs' : Srt lt (l.take (lbd lt x l) ++ l.drop (lbd lt x l)) := by rw [List.take_append_drop]; exact hs
    obtain ⟨a, b, c⟩ := List.pairwise_append.1 hs'
    refine List.pairwise_append.2 ⟨a, List.pairwise_cons.2 ⟨?_, b⟩, ?_⟩
    · intro y hy
      obtain ⟨j, hj⟩ := List.mem_iff_getElem?.1 hy
      rw [List.getElem?_drop] at hj
      have h1 := lbd_above o x l hs _ _ (by omega) hj
      rcases o.total x y (fun e => hx (by rw [e]; exact List.mem_of_getElem? hj)) with k | k
      · exact k
      · rw [h1] at k; cases k
    · intro y hy z hz
      rcases List.mem_cons.1 hz with rfl | hz
      · obtain ⟨j, hj⟩ := List.mem_iff_getElem?.1 hy
        rw [List.getElem?_take] at hj
        split at hj
        · exact lbd_below _ l _ _ (by assumption) hj
        · cases hj
      · exact c y hy z hz
theorem length_ins [DecidableEq α] (x : α) (l : List α) : (ins lt x l).length = if x ∈ l then l.length else l.length + 1 := by
  unfold ins; split
  · rfl
  · have := lbd_le (lt := lt) x l
    simp; omega
theorem mem_del [DecidableEq α] (x y : α) (l : List α) : y ∈ del x l ↔ y ∈ l ∧ y ≠ x := by unfold del; simp
theorem srt_del [DecidableEq α] (x : α) (l : List α) (hs : Srt lt l) : Srt lt (del x l) := List.Pairwise.filter _ hs
theorem del_not [DecidableEq α] (x : α) (l : List α) (h : x ∉ l) : del x l = l := by
  unfold del; rw [List.filter_eq_self]; intro a ha; simp; rintro rfl; exact h ha
theorem del_at [DecidableEq α] (o : LinOrd lt) (x : α) (l : List α) (hs : Srt lt l) (h : x ∈ l) : del x l = l.take (lbd lt x l) ++ l.drop (lbd lt x l + 1) := by
  have hm := (mem_iff o x l hs).1 h
  obtain ⟨hlt, he⟩ := List.getElem?_eq_some_iff.1 hm
  have hsplit : l = l.take (lbd lt x l) ++ x :: l.drop (lbd lt x l + 1) := by
    conv => lhs; rw [← List.take_append_drop (lbd lt x l) l]
    rw [List.drop_eq_getElem_cons hlt, he]
  have h1 : ∀ y ∈ l.take (lbd lt x l), y ≠ x := by
    rintro y hy rfl
    obtain ⟨j, hj⟩ := List.mem_iff_getElem?.1 hy
    rw [List.getElem?_take] at hj
    split at hj
    · have := lbd_below _ l _ _ (by assumption) hj
      rw [o.irrefl] at this; cases this
    · cases hj
  have hs2 := hs
  rw [hsplit] at hs2
  obtain ⟨_, b, _⟩ := List.pairwise_append.1 hs2
  have h2 : ∀ y ∈ l.drop (lbd lt x l + 1), y ≠ x := by
    rintro y hy rfl
    have := (List.pairwise_cons.1 b).1 _ hy
    rw [o.irrefl] at this; cases this
  unfold del
  conv => lhs; rw [hsplit]
  rw [List.filter_append, List.filter_cons]
  rw [List.filter_eq_self.2 (fun a ha => by simpa using h1 a ha), List.filter_eq_self.2 (fun a ha => by simpa using h2 a ha)]
  simp
theorem srt_nodup (o : LinOrd lt) {l : List α} (hs : Srt lt l) : l.Nodup := by
  refine hs.imp ?_
  rintro a b h rfl
  rw [o.irrefl] at h; cases h
theorem srt_ext (o : LinOrd lt) : ∀ (l l' : List α), Srt lt l → Srt lt l' → (∀ x, x ∈ l ↔ x ∈ l') → l = l'
  | [], [], _, _, _ => rfl
  | [], b :: l', _, _, h => by have := (h b).2 (by simp); simp at this
  | a :: l, [], _, _, h => by have := (h a).1 (by simp); simp at this
  | a :: l, b :: l', hs, hs', h => by
    obtain ⟨h1, h2⟩ := List.pairwise_cons.1 hs
    obtain ⟨h1', h2'⟩ := List.pairwise_cons.1 hs'
    have hab : a = b := by
      rcases List.mem_cons.1 ((h a).1 (by simp)) with e | e
      · exact e
      · rcases List.mem_cons.1 ((h b).2 (by simp)) with e' | e'
        · exact e'.symm
        · have := o.trans _ _ _ (h1 b e') (h1' a e)
          rw [o.irrefl] at this; cases this
    subst hab
    have : l = l' := by
      refine srt_ext o l l' h2 h2' fun x => ?_
      constructor
      · intro hx
        rcases List.mem_cons.1 ((h x).1 (by simp [hx])) with e | e
        · subst e
          have := h1 x hx; rw [o.irrefl] at this; cases this
        · exact e
      · intro hx
        rcases List.mem_cons.1 ((h x).2 (by simp [hx])) with e | e
        · subst e
          have := h1' x hx; rw [o.irrefl] at this; cases this
        · exact e
    rw [this]
end
def ltI (a b : Int) : Bool := decide (a < b)
theorem ordI : LinOrd ltI := ⟨fun a => by simp [ltI], fun a b c h k => by simp [ltI] at *; omega, fun a b h => by simp [ltI]; omega⟩
end Go.Proofs.Ytnkbbjeepdjamaa
/- What slices.BinarySearch[[]int] answers of a rising slice: the place where the item belongs, and whether it is there. Conditions: the slice's cells hold the rising list. -/
namespace Go.Proofs.Ytnkbbjeepdjamaa
open Go.RowKit

theorem above_midI {α : Type} {lt : α → α → Bool} (o : LinOrd lt) (xs : List α) (hs : Srt lt xs) (m : Nat) (z x : α) (hz : xs[m]? = some z) (ht : lt z x = false) (k : Nat) (y : α) (hk : m ≤ k) (hy : xs[k]? = some y) : lt y x = false := by
  cases e : lt y x
  · rfl
  · exfalso
    rcases Nat.lt_or_ge m k with hlt | hge
    · obtain ⟨hl, e1⟩ := List.getElem?_eq_some_iff.1 hz
      obtain ⟨hl', e2⟩ := List.getElem?_eq_some_iff.1 hy
      have := List.pairwise_iff_getElem.1 hs m k hl hl' hlt
      rw [e1, e2] at this
      have := o.trans _ _ _ this e
      rw [ht] at this; cases this
    · obtain rfl : m = k := by omega
      rw [hz] at hy; cases hy
      rw [ht] at e; cases e
theorem below_midI {α : Type} {lt : α → α → Bool} (o : LinOrd lt) (xs : List α) (hs : Srt lt xs) (m : Nat) (z x : α) (hz : xs[m]? = some z) (ht : lt z x = true) (k : Nat) (y : α) (hk : k ≤ m) (hy : xs[k]? = some y) : lt y x = true := by
  rcases Nat.lt_or_ge k m with hlt | hge
  · obtain ⟨hl, e1⟩ := List.getElem?_eq_some_iff.1 hz
    obtain ⟨hl', e2⟩ := List.getElem?_eq_some_iff.1 hy
    have := List.pairwise_iff_getElem.1 hs k m hl' hl hlt
    rw [e1, e2] at this
    exact o.trans _ _ _ this ht
  · obtain rfl : m = k := by omega
    rw [hz] at hy; cases hy
    exact ht
theorem nanI (a : Int) (w : World) : Calls Try.prog 97 #[.int .i64 a] w fun e w' => e = .returned (.bool false) ∧ w = w' := by
  go_enter Try.func97, Try.ntmps97
  go_wp2
  go_ret
  exact ⟨rfl, rfl⟩
theorem snanI (a : Int) (w : World) : Calls Try.prog 79 #[.int .i64 a] w fun e w' => e = .returned (.bool false) ∧ w = w' := by
  go_enter Try.func79, Try.ntmps79
  go_wp2
  go_ret
  exact ⟨rfl, rfl⟩
theorem lessI (a b : Int) (w : World) : Calls Try.prog 78 #[.int .i64 a, .int .i64 b] w fun e w' => e = .returned (.bool (ltI a b)) ∧ w = w' := by
  go_enter Try.func78, Try.ntmps78
  go_wp2_with (go_at_call 97; refine (nanI _ _).mono ?_; rintro e w' ⟨rfl, rfl⟩)
  go_ret
  exact ⟨rfl, rfl⟩
theorem bsI_nil (x : Int) (w : World) : Calls Try.prog 64 #[.slice none 0 0, .int .i64 x] w fun e w' => e = .returned (.tuple #[.int .i64 0, .bool false]) ∧ w = w' := by
  go_enter Try.func64, Try.ntmps64
  go_wp2
  go_loop [7, 8] (fun i j => i = .int .i64 0 ∧ j = .int .i64 0) (fun _ _ => 0)
  case atStart => exact ⟨rfl, rfl⟩
  case round =>
    obtain ⟨rfl, rfl⟩ := hrel
    go_wp2
    go_ret2
    exact ⟨rfl, rfl⟩
set_option maxHeartbeats 400000 in
theorem bsI (b n c : Nat) (xs : List Int) (x : Int) (w : World) (hn : n ≤ 4611686018427387904) (hl : n = xs.length) (hs : Srt ltI xs) (hc : ∀ k y, xs[k]? = some y → w.cell? ⟨b, k, none⟩ = some (.int .i64 y)) :
    Calls Try.prog 64 #[.slice (some ⟨b, 0, none⟩) n c, .int .i64 x] w fun e w' => e = .returned (.tuple #[.int .i64 (lbd ltI x xs), .bool (decide (x ∈ xs))]) ∧ w = w' := by
  have HC := Lib.hid hc; clear hc
  have HL := Lib.hid hl; clear hl
  go_enter Try.func64, Try.ntmps64
  go_wp2
  go_loop [7, 8] (fun i j => ∃ p q : Nat, p ≤ q ∧ q ≤ n ∧ i = .int .i64 p ∧ j = .int .i64 q ∧ Hid (∀ k y, k < p → xs[k]? = some y → ltI y x = true) ∧ Hid (∀ k y, q ≤ k → xs[k]? = some y → ltI y x = false)) (fun i j => (intOf j - intOf i).toNat)
  case atStart => exact ⟨0, n, by omega, by omega, rfl, rfl, (fun k y h => by omega : ∀ k y, k < 0 → _), (fun k y h hy => by have := (List.getElem?_eq_some_iff.1 hy).1; have := HL.out; omega : ∀ k y, n ≤ k → _)⟩
  case round =>
    obtain ⟨p, q, hpq, hqn, rfl, rfl, h1, h2⟩ := hrel
    by_cases hlt : p < q
    · obtain ⟨z, hx⟩ : ∃ z, xs[(p + q) / 2]? = some z := ⟨_, List.getElem?_eq_getElem (by have := HL.out; omega)⟩
      have hc := HC.out _ _ hx
      have HX := Lib.hid hx; clear hx
      cases ht : ltI z x
      · have HT := Lib.hid ht; clear ht
        go_wp2_with fail
        refine (lessI _ _ _).mono ?_; rintro e w' ⟨rfl, rfl⟩
        rw [HT.out]
        go_wp2
        go_round
        case rel =>
          refine ⟨p, (p + q) / 2, by omega, by omega, rfl, by go_num, h1, fun k y hk hy => ?_⟩
          exact above_midI ordI xs hs _ _ x HX.out HT.out k y hk hy
        case measure => simp [intOf]; omega
      · have HT := Lib.hid ht; clear ht
        go_wp2_with fail
        refine (lessI _ _ _).mono ?_; rintro e w' ⟨rfl, rfl⟩
        rw [HT.out]
        go_wp2
        go_round
        case rel =>
          refine ⟨(p + q) / 2 + 1, q, by omega, by omega, by go_num, rfl, fun k y hk hy => ?_, h2⟩
          exact below_midI ordI xs hs _ _ x HX.out HT.out k y (by omega) hy
        case measure => simp [intOf]; omega
    · obtain rfl : p = q := by omega
      have hp : lbd ltI x xs = p := lbd_of ordI x xs hs p (by have := HL.out; omega) h1.out h2.out
      by_cases hpn : p < n
      · obtain ⟨z, hx⟩ : ∃ z, xs[p]? = some z := ⟨_, List.getElem?_eq_getElem (by have := HL.out; omega)⟩
        have hc := HC.out _ _ hx
        by_cases he : z = x
        · have hmem : decide (x ∈ xs) = true := by rw [decide_eq_true_iff, mem_iff ordI x xs hs, hp, hx, he]
          have HM := Lib.hid hmem; have HP := Lib.hid hp; have HE := Lib.hid he; clear hmem hp he hx
          have ht : (z == x) = true := by rw [HE.out]; simp
          go_wp2
          go_ret2
          exact ⟨by rw [HP.out, HM.out]; rfl, rfl⟩
        · have hmem : decide (x ∈ xs) = false := by
            rw [decide_eq_false_iff_not, mem_iff ordI x xs hs, hp, hx]
            intro h; exact he (Option.some.inj h)
          have ht : (z == x) = false := by simp [he]
          have HM := Lib.hid hmem; have HP := Lib.hid hp; clear hmem hp he hx
          go_wp2_with (go_at_call 79; refine (snanI _ _).mono ?_; rintro e w' ⟨rfl, rfl⟩)
          go_ret2
          exact ⟨by rw [HP.out, HM.out]; rfl, rfl⟩
      · have hmem : decide (x ∈ xs) = false := by
          rw [decide_eq_false_iff_not, mem_iff ordI x xs hs, hp, List.getElem?_eq_none (by have := HL.out; omega)]
          intro h; cases h
        have HM := Lib.hid hmem; have HP := Lib.hid hp; clear hmem hp
        have hd : decide ((p : Int) < (n : Int)) = false := by simp; omega
        go_wp2
        go_ret2
        exact ⟨by rw [HP.out, HM.out]; rfl, rfl⟩
end Go.Proofs.Ytnkbbjeepdjamaa
/- What slices.Insert[[]int] does to a row of the call's own, one item put in: in place, or in a new row. After the shelf's two roads at []int. Conditions: the row is the call's own; the item lies in another block. -/
set_option linter.unusedVariables false
namespace Go.Proofs.Ytnkbbjeepdjamaa
open Go.RowKit Go.Lib
section
variable {P : Program}
theorem wp_copy_runI (w : World) {o : Oper} {a : Act} {K : Act → World → Prop} {Q : Exit → Act → World → Prop} (d s : Operand) (t t' : TypeId)
    (ho : o.op = .call { callee := .builtin .copy, args := #[d, s], argTypes := #[t, t'] }) (v u : Value) (hd : a.eval d = v) (hs : a.eval s = u) {v' : Value} {w' : World}
    (hr : (Builtin.copy_ #[t, t'] o.type #[v, u]).run P w = .ok v' w') (h : K (a.put o.dst v') w') : o.wp P a w K Q := by
  unfold Oper.wp execOp
  simp only [ho, resolve, invoke, builtin, Sem.run_bind, Sem.run_pure, Result.andThen_ok, List.map_toArray, List.map_cons, List.map_nil, hd, hs, hr]
  exact h

theorem wpList_copy_runI (w : World) {ops : Array Oper} {rest : List Oper} {o : Oper} {a : Act} {Q : Exit → Act → World → Prop} (hgd : o.guard = none) (d s : Operand) (t t' : TypeId)
    (ho : o.op = .call { callee := .builtin .copy, args := #[d, s], argTypes := #[t, t'] }) (v u : Value) (hd : a.eval d = v) (hs : a.eval s = u) {v' : Value} {w' : World}
    (hr : (Builtin.copy_ #[t, t'] o.type #[v, u]).run P w = .ok v' w') (h : wpList P ops Q rest (a.put o.dst v') w') : wpList P ops Q (o :: rest) a w :=
  wpList_plain hgd fun _ hK => wp_copy_runI w d s t t' ho v u hd hs hr (hK _ _ h)

theorem step_copy_runI {ops : Array Oper} {o : Oper} {a : Act} {w : World} {K : Act → World → Prop} {Q : Exit → Act → World → Prop} {E : Prop}
    (hg : o.guard = none) (d x : Operand) (dT sT : TypeId) (hop : o.op = Op.call { callee := Callee.builtin Builtin.copy, args := #[d, x], argTypes := #[dT, sT] })
    (v u : Value) (hd : a.eval d = v) (hx : a.eval x = u) {v' : Value} {w' : World} (hr : (Builtin.copy_ #[dT, sT] o.type #[v, u]).run P w = .ok v' w') (hK : K (a.put o.dst v') w') :
    if Region.wanted o (yielded ops a.tmps) = true then Oper.wp P o a w K Q else E := by
  have hw : Region.wanted o (yielded ops a.tmps) = true := by simp [Region.wanted, hg]
  rw [if_pos hw]
  unfold Oper.wp
  simp [execOp, hop, resolve, invoke, builtin, hd, hx, hr, Result.andThen]
  exact hK

theorem drew_setCellsI (b : Nat) : ∀ (vs : List Value) (o : Nat) (w : World), (w.setCells b o vs).drew = w.drew.setCells b o vs
  | [], _, _ => rfl
  | v :: r, o, w => by rw [World.setCells, World.setCells, drew_setCellsI b r]; rfl

theorem isSome_setCellsI (b : Nat) (vs : List Value) (o : Nat) (w : World) (h : ∀ j, j < vs.length → (w.cell? ⟨b, o + j, none⟩).isSome = true) (k : Nat) (hk : (w.cell? ⟨b, k, none⟩).isSome = true) : ((w.setCells b o vs).cell? ⟨b, k, none⟩).isSome = true := by
  by_cases hin : o ≤ k ∧ k < o + vs.length
  · have := World.cell?_setCells_in b vs o w h (k - o) (by omega)
    rw [show o + (k - o) = k by omega] at this
    rw [this]; rfl
  · rw [World.cell?_setCells_out b vs o w ⟨b, k, none⟩ (fun _ _ => by show k < o ∨ o + vs.length ≤ k; omega)]
    exact hk

end
theorem infoSI : (Try.prog.info? 3).map (fun i => (i.zero, i.size, i.bytes)) = some (some (.int .i64 0), 1, 8) := by kernel_rfl
theorem sizeOfI : ∀ w, (Go.sizeOf 3).run Try.prog w = .ok 1 w := fun w => by kernel_rfl
set_option maxHeartbeats 4000000 in
set_option maxRecDepth 100000 in
theorem insertI_shift (b off n c i vb voff m vc : Nat) (cs vs : List Value) (w : World) (hi : i < n) (hm : 0 < m) (hroom : n + m ≤ c) (hc63 : c ≤ 9223372036854775807) (hvb : vb ≠ b)
    (hcl : cs.length = n) (hvl : vs.length = m)
    (hcs : ∀ j v, cs[j]? = some v → w.cell? ⟨b, off + j, none⟩ = some v) (hsp : ∀ j, j < n + m → (w.cell? ⟨b, off + j, none⟩).isSome = true) (hfz : ∀ j, j < n + m → w.frozen? ⟨b, off + j, none⟩ = false)
    (hvs : ∀ j v, vs[j]? = some v → w.cell? ⟨vb, voff + j, none⟩ = some v) (h1c : ∀ v ∈ cs, v.oneCell' = true) (h1v : ∀ v ∈ vs, v.oneCell' = true)
    (tA tB : TypeId) (kA kB : Nat) (hsa : w.shape? vb = some (tA, kA)) (hsb : w.shape? b = some (tB, kB)) (hkB : kB ≠ 0) (hfa : w.frozen? ⟨vb, voff, none⟩ = false) (hfe : w.frozen? ⟨vb, kA, none⟩ = false) :
    Calls Try.prog 68 #[.slice (some ⟨b, off, none⟩) n c, .int .i64 i, .slice (some ⟨vb, voff, none⟩) m vc] w fun e w' =>
      e = .returned (.slice (some ⟨b, off, none⟩) (n + m) c) ∧ w' = (w.drew.setCells b (off + (i + m)) (cs.drop i)).setCells b (off + i) vs := by
  have hz1 : ¬ ((m : Int) = 0) := by omega
  have hz2 : ¬ ((i : Int) = (n : Int)) := by omega
  have hsz : (Try.prog.info? 3).map (·.size) = some 1 := by
    obtain ⟨i0, hi0, h0, h1, h2⟩ := info_parts infoSI
    rw [hi0]; simp [h1]
  have hov : ∀ lb cb, (callFunc 82 #[.slice (some ⟨vb, voff, none⟩) m vc, .slice (some ⟨b, off + (i + m), none⟩) lb cb]).run Try.prog w = .ok (.value (.bool false)) w := fun lb cb => by
    rw [run_callFunc_extern Try.func82 (by kernel_rfl) (by kernel_rfl) (by kernel_rfl) (e := Extern.SlicesOverlaps.overlaps #[31, 31] #[4]) (by kernel_rfl),
      Lib.run_overlaps_apart w 31 4 3 Try.underlying31 1 sizeOfI ⟨vb, voff, none⟩ ⟨b, off + (i + m), none⟩ m vc lb cb hvb tA tB kA kB hsa hsb hkB hfa hfe]
    rfl
  have hdl : (cs.drop i).length = n - i := by rw [List.length_drop, hcl]
  have hw1 : IntKind.i64.wrap ((i : Int) + (m : Int)) = (i : Int) + (m : Int) := by rw [IntKind.wrap_i64]; omega
  have hb1 : (0 : Int) ≤ (i : Int) + (m : Int) := by omega
  have hin : i ≤ n := by omega
  have htn : ((i : Int) + (m : Int)).toNat = i + m := by omega
  have hb2 : ¬ (c = i + m) := by omega
  have hb3 : (i : Int) ≤ (n : Int) + (m : Int) := by omega
  have hb4 : ¬ (c = i) := by omega
  have hcp1 : ∀ ty dc sc, (Builtin.copy_ #[31, 31] ty #[.slice (some ⟨b, off + (i + m), none⟩) (n + m - (i + m)) dc, .slice (some ⟨b, off + i, none⟩) (n + m - i) sc]).run Try.prog w.drew = .ok (goInt (cs.drop i).length) (w.drew.setCells b (off + (i + m)) (cs.drop i)) := fun ty dc sc =>
    run_copy_cells w.drew _ _ ty 3 b (off + (i + m)) (n + m - (i + m)) dc ⟨b, off + i, none⟩ (n + m - i) sc (cs.drop i) Try.underlying31 hsz (by rw [hdl]; simp only [Nat.min_def]; split <;> omega)
      (fun j v hj => by rw [Addr.add_lit, Nat.add_assoc]; exact hcs (i + j) v (by rwa [List.getElem?_drop] at hj))
      (fun j hj => by rw [Nat.add_assoc]; exact hsp _ (by omega)) (fun j hj => by rw [Nat.add_assoc]; exact hfz _ (by omega)) (fun v hv => h1c v (List.mem_of_mem_drop hv))
  obtain ⟨W1, hW1⟩ : ∃ W1, W1 = w.drew.setCells b (off + (i + m)) (cs.drop i) := ⟨_, rfl⟩
  have hsp1 : ∀ k, k < n + m → (W1.cell? ⟨b, off + k, none⟩).isSome = true := fun k hk => by
    rw [hW1]
    exact isSome_setCellsI b _ _ _ (fun j hj => by rw [Nat.add_assoc]; exact hsp _ (by omega)) _ (hsp k hk)
  have hcp2 : ∀ (W : World), (∀ x, W.cell? x = W1.cell? x) → (∀ x, W.frozen? x = W1.frozen? x) → ∀ ty dc, (Builtin.copy_ #[31, 31] ty #[.slice (some ⟨b, off + i, none⟩) (n + m - i) dc, .slice (some ⟨vb, voff, none⟩) m vc]).run Try.prog W = .ok (goInt vs.length) (W.setCells b (off + i) vs) := fun W hWc hWf ty dc =>
    run_copy_cells W _ _ ty 3 b (off + i) (n + m - i) dc ⟨vb, voff, none⟩ m vc vs Try.underlying31 hsz (by rw [hvl]; simp only [Nat.min_def]; split <;> omega)
      (fun j v hj => by
        rw [Addr.add_lit, hWc, hW1, World.cell?_setCells_out b _ _ _ _ (fun h _ => absurd h hvb)]
        exact hvs j v hj)
      (fun j hj => by rw [hWc, Nat.add_assoc]; exact hsp1 _ (by omega)) (fun j hj => by rw [hWf, hW1, World.frozen?_setCells, Nat.add_assoc]; exact hfz _ (by omega)) h1v
  rw [← hW1] at hcp1
  go_enter Try.func68, Try.ntmps68
  go_wp2_with (simp only [hov])
  go_region_law (refine step_copy_runI rfl _ _ 31 31 rfl _ _ (by simp [Act.eval, Act.put]) (by simp [Act.eval, Act.put]) (hcp1 _ _ _) ?_)
  go_wp2_with (at_builtin; refine wpList_copy_runI _ rfl _ _ 31 31 rfl _ _ rfl rfl (hcp2 _ (fun _ => rfl) (fun _ => rfl) _ _) ?_)
  go_ret
  first | exact ⟨rfl, rfl⟩ | exact ⟨rfl, by rw [hW1]⟩

set_option maxHeartbeats 4000000 in
set_option maxRecDepth 100000 in
theorem insertI_grow (b off n c i vb voff m vc : Nat) (cs vs : List Value) (w : World) (hi : i < n) (hm : 0 < m) (hnc : n ≤ c) (hroom : c < n + m) (hbig : (n + m) * 8 ≤ 140737488355328)
    (hcl : cs.length = n) (hvl : vs.length = m)
    (hcs : ∀ j v, cs[j]? = some v → w.cell? ⟨b, off + j, none⟩ = some v)
    (hvs : ∀ j v, vs[j]? = some v → w.cell? ⟨vb, voff + j, none⟩ = some v) (h1c : ∀ v ∈ cs, v.oneCell' = true) (h1v : ∀ v ∈ vs, v.oneCell' = true) :
    Calls Try.prog 68 #[.slice (some ⟨b, off, none⟩) n c, .int .i64 i, .slice (some ⟨vb, voff, none⟩) m vc] w fun e w' =>
      e = .returned (.slice (some ⟨w.heap.size, 0, none⟩) (n + m) (grownCap w (n + m) c 3)) ∧
      w' = (((w.alloc (.cells ((cs.take i).toArray ++ Builtin.zeroCells (Value.int .i64 0).cells (n + m - i) ++ Builtin.zeroCells (Value.int .i64 0).cells (grownCap w (n + m) c 3 - (n + m))) 3)).drew.setCells w.heap.size i vs).drew).setCells w.heap.size (i + m) (cs.drop i) := by
  obtain ⟨i0, hi0, hz0, hzs, hzb⟩ := info_parts infoSI
  have hz1 : ¬ ((m : Int) = 0) := by omega
  have hz2 : ¬ ((i : Int) = (n : Int)) := by omega
  have hz3 : (c : Int) < (n : Int) + (m : Int) := by omega
  have hsz : (Try.prog.info? 3).map (·.size) = some 1 := by rw [hi0]; simp [hzs]
  have hbw : b < w.heap.size := block_lt_of_cell (hcs 0 _ (List.getElem?_eq_getElem (by omega)))
  have hvw : vb < w.heap.size := block_lt_of_cell (hvs 0 _ (List.getElem?_eq_getElem (by omega)))
  have hkk : (n : Int) + (m : Int) - (i : Int) = ((n + m - i : Nat) : Int) := by omega
  have hik : i + (n + m - i) = n + m := by omega
  have hold : (Builtin.firstCells i0.size i (.slice (some ⟨b, off, none⟩) i c)).run Try.prog w.drew = .ok (cs.take i).toArray w.drew := by
    rw [hzs]
    exact run_firstCells_some w.drew 1 i ⟨b, off, none⟩ i c (cs.take i) (by rw [List.length_take]; omega) (fun j v hj => by
      rw [Addr.add_lit]
      rw [List.getElem?_take] at hj
      split at hj
      · exact hcs j v hj
      · cases hj)
  have hrz : ∀ ty, (Builtin.append_ #[31, 3] ty #[.slice (some ⟨b, off, none⟩) i c, .int .i64 ((n : Int) + (m : Int) - (i : Int))]).run Try.prog w =
      .ok (.slice (some ⟨w.heap.size, 0, none⟩) (n + m) (grownCap w (n + m) c 3)) (w.drew.alloc (.cells ((cs.take i).toArray ++ Builtin.zeroCells (Value.int .i64 0).cells (n + m - i) ++ Builtin.zeroCells (Value.int .i64 0).cells (grownCap w (n + m) c 3 - (n + m))) 3)) := fun ty => by
    have h := Lib.run_append_grow_zeros w 31 3 ty 3 i0 _ .i64 .i64 Try.underlying31 Try.underlying3 hi0 hz0 (some ⟨b, off, none⟩) i c (cs.take i) hold (n + m - i) (by omega) (by omega) (by omega) (by omega) (by rw [hzb]; omega) (by rw [hzb, hik]; exact growslice_fits hroom hbig)
    rw [hik] at h
    rw [hkk]
    exact h
  obtain ⟨G, hG⟩ : ∃ G, G = grownCap w (n + m) c 3 := ⟨_, rfl⟩
  obtain ⟨ROW, hROW⟩ : ∃ ROW : Array Value, ROW = (cs.take i).toArray ++ Builtin.zeroCells (Value.int .i64 0).cells (n + m - i) ++ Builtin.zeroCells (Value.int .i64 0).cells (G - (n + m)) := ⟨_, rfl⟩
  rw [← hG] at hrz ⊢
  rw [← hROW] at hrz ⊢
  have hRl : n + m ≤ ROW.size := by
    rw [hROW]
    simp [Builtin.zeroCells, Value.cells]
    omega
  obtain ⟨W1, hW1⟩ : ∃ W1, W1 = w.drew.alloc (.cells ROW 3) := ⟨_, rfl⟩
  rw [← hW1] at hrz
  have hN : ∀ j, j < n + m → (W1.cell? ⟨w.heap.size, j, none⟩).isSome = true := fun j hj => by
    rw [hW1, World.cell?_alloc_at (w := w.drew) ROW _ w.heap.size j rfl, Array.getElem?_eq_getElem (by omega)]; rfl
  have hNf : ∀ j, W1.frozen? ⟨w.heap.size, j, none⟩ = false := fun j => by rw [hW1]; exact World.frozen?_alloc_at (w := w.drew) ROW _ w.heap.size j rfl
  have hOb : ∀ j v, w.cell? ⟨b, j, none⟩ = some v → W1.cell? ⟨b, j, none⟩ = some v := fun j v h => by rw [hW1, World.cell?_alloc_past (w := w.drew) _ b j hbw]; exact h
  have hOv : ∀ j v, w.cell? ⟨vb, j, none⟩ = some v → W1.cell? ⟨vb, j, none⟩ = some v := fun j v h => by rw [hW1, World.cell?_alloc_past (w := w.drew) _ vb j hvw]; exact h
  have hcpA : ∀ (W : World), (∀ x, W.cell? x = W1.cell? x) → (∀ x, W.frozen? x = W1.frozen? x) → ∀ ty dc, (Builtin.copy_ #[31, 31] ty #[.slice (some ⟨w.heap.size, i, none⟩) (n + m - i) dc, .slice (some ⟨vb, voff, none⟩) m vc]).run Try.prog W = .ok (goInt vs.length) (W.setCells w.heap.size i vs) := fun W hWc hWf ty dc =>
    run_copy_cells W _ _ ty 3 w.heap.size i (n + m - i) dc ⟨vb, voff, none⟩ m vc vs Try.underlying31 hsz (by rw [hvl]; simp only [Nat.min_def]; split <;> omega)
      (fun j v hj => by rw [Addr.add_lit, hWc]; exact hOv _ v (hvs j v hj))
      (fun j hj => by rw [hWc]; exact hN _ (by omega)) (fun j hj => by rw [hWf]; exact hNf _) h1v
  have hGn : n + m ≤ G := by rw [hG]; exact grownCap_ge w _ _ _
  have hG63 : G ≤ 9223372036854775807 := by
    have := grownCap_le_maxLen w (n + m) c 3 (by unfold maxLen; omega)
    rw [← hG] at this
    unfold maxLen at this
    omega
  have hGi : ¬ (G = i) := by omega
  have hGim : ¬ (G = i + m) := by omega
  have hci : ¬ (c = i) := by omega
  have hbN : b ≠ w.heap.size := by omega
  have hdl : (cs.drop i).length = n - i := by rw [List.length_drop, hcl]
  have hcpB : ∀ (W : World), (∀ x, W.cell? x = (W1.setCells w.heap.size i vs).cell? x) → (∀ x, W.frozen? x = (W1.setCells w.heap.size i vs).frozen? x) → ∀ ty dc sc, (Builtin.copy_ #[31, 31] ty #[.slice (some ⟨w.heap.size, i + m, none⟩) (n + m - (i + m)) dc, .slice (some ⟨b, off + i, none⟩) (n - i) sc]).run Try.prog W = .ok (goInt (cs.drop i).length) (W.setCells w.heap.size (i + m) (cs.drop i)) := fun W hWc hWf ty dc sc =>
    run_copy_cells W _ _ ty 3 w.heap.size (i + m) (n + m - (i + m)) dc ⟨b, off + i, none⟩ (n - i) sc (cs.drop i) Try.underlying31 hsz (by rw [hdl]; simp only [Nat.min_def]; split <;> omega)
      (fun j v hj => by
        rw [Addr.add_lit, hWc, World.cell?_setCells_out _ _ _ _ _ (fun h _ => absurd h hbN), Nat.add_assoc]
        exact hOb _ v (hcs (i + j) v (by rwa [List.getElem?_drop] at hj)))
      (fun j hj => by rw [hWc]; exact isSome_setCellsI _ _ _ _ (fun t ht => hN _ (by omega)) _ (hN _ (by omega)))
      (fun j hj => by rw [hWf, World.frozen?_setCells]; exact hNf _) (fun v hv => h1c v (List.mem_of_mem_drop hv))
  subst hW1
  have hE1 : ∀ x, ((w.alloc (.cells ROW 3)).drew).cell? x = (w.drew.alloc (.cells ROW 3)).cell? x := fun x => rfl
  have hE2 : ∀ x, ((w.alloc (.cells ROW 3)).drew).frozen? x = (w.drew.alloc (.cells ROW 3)).frozen? x := fun x => rfl
  have hF1 : ∀ x, (((w.alloc (.cells ROW 3)).drew.setCells w.heap.size i vs).drew).cell? x = ((w.drew.alloc (.cells ROW 3)).setCells w.heap.size i vs).cell? x := fun x => rfl
  have hF2 : ∀ x, (((w.alloc (.cells ROW 3)).drew.setCells w.heap.size i vs).drew).frozen? x = ((w.drew.alloc (.cells ROW 3)).setCells w.heap.size i vs).frozen? x := fun x => rfl
  have hw1 : IntKind.i64.wrap ((i : Int) + (m : Int)) = (i : Int) + (m : Int) := by rw [IntKind.wrap_i64]; omega
  have hb1 : (0 : Int) ≤ (i : Int) + (m : Int) := by omega
  have hin : i ≤ n := by omega
  have htn : ((i : Int) + (m : Int)).toNat = i + m := by omega
  have hb3 : (i : Int) ≤ (n : Int) := by omega
  clear hkk hik hold hROW hG hRl
  go_enter Try.func68, Try.ntmps68
  go_wp2_with (first
    | (at_builtin; refine Lib.wpList_append_run _ rfl _ _ _ _ rfl _ _ rfl rfl _ _ (hrz _) ?_)
    | (at_builtin; refine wpList_copy_runI _ rfl _ _ 31 31 rfl _ _ rfl rfl (hcpA _ hE1 hE2 _ _) ?_)
    | (at_builtin; refine wpList_copy_runI _ rfl _ _ 31 31 rfl _ _ rfl rfl (hcpB _ (fun _ => rfl) (fun _ => rfl) _ _ _) ?_))
  go_region_law (refine step_copy_runI rfl _ _ 31 31 rfl (.slice (some ⟨w.heap.size, i + m, none⟩) (n + m - (i + m)) (G - (i + m))) (.slice (some ⟨b, off + i, none⟩) (n - i) (c - i)) (by simp [Act.eval, Act.put]) (by simp [Act.eval, Act.put]) (hcpB _ hF1 hF2 3 (G - (i + m)) (c - i)) ?_)
  go_wp2
  go_ret
  exact ⟨rfl, rfl⟩
set_option maxHeartbeats 1000000 in
set_option maxRecDepth 100000 in
theorem insertI (base : Nat) (v : Value) (n i vb : Nat) (xs : List Value) (x : Value) (w : World) (hx : x.oneCell' = true) (hxs : ∀ u ∈ xs, u.oneCell' = true) (hn : n ≤ 1048576) (hi : i ≤ n)
    (hown : w.ownsRow base 3 1 v n xs) (hvb : w.heap[vb]? = some (.cells #[x] 3 (0, 0))) (hne : v.ownBlock ≠ some vb) (hbase : base ≤ w.heap.size) :
    Calls Try.prog 68 #[v, .int .i64 i, .slice (some ⟨vb, 0, none⟩) 1 1] w fun e w' =>
      ∃ v', e = .returned v' ∧ w'.ownsRow base 3 1 v' (n + 1) (xs.take i ++ x :: xs.drop i) ∧ Only (fun k => v.ownBlock = some k) w w' ∧ (v'.ownBlock = v.ownBlock ∨ v'.ownBlock = some w.heap.size) := by
  have hl : xs.length = n := by have := hown.1; omega
  have hvc : ∀ j u, [x][j]? = some u → w.cell? ⟨vb, 0 + j, none⟩ = some u := by
    intro j u hj
    rw [cell_of_blk w vb _ _ _ hvb]
    cases j with
    | zero => simpa using hj
    | succ j => simp at hj
  rcases Nat.lt_or_ge i n with hlt | hge
  · rcases own_forms hown with ⟨_, h0, _⟩ | ⟨g, cap, cur, rfl, hg, hh, hnc, hcm, hcs, _⟩
    · omega
    · have hgv : vb ≠ g := fun e => hne (by rw [e]; rfl)
      have hcx : ∀ j u, xs[j]? = some u → w.cell? ⟨g, 0 + j, none⟩ = some u := fun j u hj => by rw [Nat.zero_add]; exact own_cell hown j u hj
      have hcell : ∀ j, j < cap → (w.cell? ⟨g, 0 + j, none⟩).isSome = true := fun j hj => by
        rw [cell_of_blk w g _ _ _ hh, Nat.zero_add, Array.getElem?_eq_getElem (by omega)]; rfl
      have hfr : ∀ j, w.frozen? ⟨g, j, none⟩ = false := fun j => by simp [World.frozen?, hh]
      have hfv : ∀ j, w.frozen? ⟨vb, j, none⟩ = false := fun j => by simp [World.frozen?, hvb]
      have hgl : g < w.heap.size := (Array.getElem?_eq_some_iff.1 hh).1
      rcases Nat.lt_or_ge cap (n + 1) with hroom | hroom
      · refine (insertI_grow g 0 n cap i vb 0 1 1 xs [x] w hlt (by omega) hnc hroom (by omega) hl rfl hcx hvc hxs (by simpa using hx)).mono ?_
        rintro e w' ⟨rfl, rfl⟩
        refine ⟨_, rfl, ?_, ?_, .inr rfl⟩
        · obtain ⟨G, hG⟩ : ∃ G, G = grownCap w (n + 1) cap 3 := ⟨_, rfl⟩
          have hGn : n + 1 ≤ G := by rw [hG]; exact grownCap_ge w _ _ _
          have hGm : G ≤ maxLen := by rw [hG]; exact grownCap_le_maxLen w _ _ _ (by unfold maxLen; omega)
          rw [← hG]
          obtain ⟨ROW, hR⟩ : ∃ ROW : Array Value, ROW = (xs.take i).toArray ++ Builtin.zeroCells (Value.int .i64 0).cells (n + 1 - i) ++ Builtin.zeroCells (Value.int .i64 0).cells (G - (n + 1)) := ⟨_, rfl⟩
          rw [← hR]
          have hRs : ROW.size = G := by rw [hR]; simp [Builtin.zeroCells, Value.cells]; omega
          have hh0 : (w.alloc (.cells ROW 3)).heap[w.heap.size]? = some (.cells ROW 3 (0, 0)) := heap_alloc_new w _
          obtain ⟨c1, hh1, hs1⟩ := setCells_block w.heap.size [x] i (w.alloc (.cells ROW 3)).drew ROW _ _ hh0
          obtain ⟨c2, hh2, hs2⟩ := setCells_block w.heap.size (xs.drop i) (i + 1) ((w.alloc (.cells ROW 3)).drew.setCells w.heap.size i [x]).drew c1 _ _ hh1
          refine ownsRow_of_cells hbase hh2 (by omega) hGn hGm (by simp; omega) ?_
          intro j u hj
          have hsome : ∀ k, k < n + 1 → (((w.alloc (.cells ROW 3)).drew).cell? ⟨w.heap.size, k, none⟩).isSome = true := fun k hk => by
            show ((w.alloc (.cells ROW 3)).cell? ⟨w.heap.size, k, none⟩).isSome = true
            rw [cell_of_blk _ _ _ _ _ hh0, Array.getElem?_eq_getElem (by omega)]; rfl
          have hsome1 : ∀ k, k < n + 1 → (((w.alloc (.cells ROW 3)).drew.setCells w.heap.size i [x]).drew.cell? ⟨w.heap.size, k, none⟩).isSome = true := fun k hk => by
            show (((w.alloc (.cells ROW 3)).drew.setCells w.heap.size i [x]).cell? ⟨w.heap.size, k, none⟩).isSome = true
            exact isSome_setCellsI _ _ _ _ (fun t ht => hsome _ (by simp at ht; omega)) _ (hsome _ hk)
          by_cases h1 : j < i + 1
          · rw [World.cell?_setCells_out _ _ _ _ _ (fun _ _ => .inl h1)]
            show ((w.alloc (.cells ROW 3)).drew.setCells w.heap.size i [x]).cell? ⟨w.heap.size, j, none⟩ = some u
            by_cases h2 : j < i
            · rw [World.cell?_setCells_out _ _ _ _ _ (fun _ _ => .inl h2)]
              show (w.alloc (.cells ROW 3)).cell? ⟨w.heap.size, j, none⟩ = some u
              rw [cell_of_blk _ _ _ _ _ hh0, hR]
              rw [List.getElem?_append_left (by rw [List.length_take]; omega)] at hj
              rw [Array.getElem?_append_left (by simp; omega), Array.getElem?_append_left (by simp; omega)]
              simpa using hj
            · obtain rfl : j = i := by omega
              rw [List.getElem?_append_right (by rw [List.length_take]; omega), List.length_take, show j - min j xs.length = 0 by omega] at hj
              have hin := World.cell?_setCells_in w.heap.size [x] j (w.alloc (.cells ROW 3)).drew (fun t ht => hsome _ (by simp at ht; omega)) 0 (by simp)
              rw [Nat.add_zero] at hin
              rw [hin]; simpa using hj
          · rw [List.getElem?_append_right (by rw [List.length_take]; omega), List.length_take] at hj
            obtain ⟨t, rfl⟩ : ∃ t, j = i + 1 + t := ⟨j - (i + 1), by omega⟩
            rw [show i + 1 + t - min i xs.length = t + 1 by omega, List.getElem?_cons_succ] at hj
            have ht := (List.getElem?_eq_some_iff.1 hj).1
            rw [World.cell?_setCells_in w.heap.size (xs.drop i) (i + 1) _ (fun s hs => hsome1 _ (by simp at hs; omega)) t ht]
            rw [List.getElem?_eq_getElem ht] at hj; exact hj
        · have a1 := Only.alloc (fun k => Value.ownBlock (.slice (some ⟨g, 0, none⟩) n cap) = some k) w (.cells ((xs.take i).toArray ++ Builtin.zeroCells (Value.int .i64 0).cells (n + 1 - i) ++ Builtin.zeroCells (Value.int .i64 0).cells (grownCap w (n + 1) cap 3 - (n + 1))) 3)
          refine (a1.trans (Only.drew (fun _ => False) _) (fun _ _ h => h.elim)).trans (((Only.grown (setCells_grown w.heap.size [x] i _)).trans (Only.drew (fun _ => False) _) (fun _ _ h => h.elim)).trans (Only.grown (setCells_grown w.heap.size (xs.drop i) (i + 1) _)) (fun _ _ h => h)) ?_
          intro k hk h
          injection h with h
          omega
      · refine (insertI_shift g 0 n cap i vb 0 1 1 xs [x] w hlt (by omega) hroom (by unfold maxLen at hcm; omega) hgv hl rfl hcx (fun j hj => hcell j (by omega)) (fun j hj => hfr _) hvc hxs (by simpa using hx) 3 3 1 cap (by simp [World.shape?, hvb]) (by simp [World.shape?, hh, hcs]) (by omega) (hfv _) (hfv _)).mono ?_
        rintro e w' ⟨rfl, rfl⟩
        simp only [Nat.zero_add]
        refine ⟨_, rfl, ?_, ?_, .inl rfl⟩
        · obtain ⟨c1, hh1, hs1⟩ := setCells_block g (xs.drop i) (i + 1) w.drew cur _ _ hh
          obtain ⟨c2, hh2, hs2⟩ := setCells_block g [x] i (w.drew.setCells g (i + 1) (xs.drop i)) c1 _ _ hh1
          refine ownsRow_of_cells hg hh2 (by omega) hroom hcm (by simp; omega) ?_
          intro j u hj
          have hsome : ∀ k, k < cap → (w.drew.cell? ⟨g, k, none⟩).isSome = true := fun k hk => by
            have := hcell k hk; rw [Nat.zero_add] at this; exact this
          have hsome1 : ∀ k, k < cap → ((w.drew.setCells g (i + 1) (xs.drop i)).cell? ⟨g, k, none⟩).isSome = true := fun k hk =>
            isSome_setCellsI _ _ _ _ (fun t ht => hsome _ (by simp at ht; omega)) _ (hsome _ hk)
          by_cases h1 : j = i
          · subst h1
            rw [List.getElem?_append_right (by rw [List.length_take]; omega), List.length_take, show j - min j xs.length = 0 by omega] at hj
            have hin := World.cell?_setCells_in g [x] j (w.drew.setCells g (j + 1) (xs.drop j)) (fun t ht => hsome1 _ (by simp at ht; omega)) 0 (by simp)
            simp only [Nat.add_zero] at hin
            rw [hin]; simpa using hj
          · rw [World.cell?_setCells_out g [x] _ _ _ (fun _ _ => by show j < i ∨ i + [x].length ≤ j; simp; omega)]
            by_cases h2 : j < i
            · rw [World.cell?_setCells_out _ _ _ _ _ (fun _ _ => .inl (by show j < i + 1; omega))]
              rw [List.getElem?_append_left (by rw [List.length_take]; omega), List.getElem?_take_of_lt h2] at hj
              exact own_cell hown j u hj
            · rw [List.getElem?_append_right (by rw [List.length_take]; omega), List.length_take] at hj
              obtain ⟨t, rfl⟩ : ∃ t, j = i + 1 + t := ⟨j - (i + 1), by omega⟩
              rw [show i + 1 + t - min i xs.length = t + 1 by omega, List.getElem?_cons_succ] at hj
              have ht := (List.getElem?_eq_some_iff.1 hj).1
              rw [World.cell?_setCells_in g (xs.drop i) (i + 1) _ (fun s hs => hsome _ (by simp at hs; omega)) t ht]
              rw [List.getElem?_eq_getElem ht] at hj; exact hj
        · exact (((Only.drew (fun k => some g = some k) w).trans (Only.grown (setCells_grown g (xs.drop i) (i + 1) w.drew)) (fun _ _ h => h)).trans (Only.grown (setCells_grown g [x] i _)) (fun _ _ h => h))
  · obtain rfl : i = n := by omega
    obtain ⟨i0, hi0, hz0, hz1, hz2⟩ := info_parts infoSI
    have hvc' : ∀ j u, [x][j]? = some u → w.cell? ((⟨vb, 0, none⟩ : Addr).add j) = some u := fun j u hj => by rw [Addr.add_lit]; exact hvc j u hj
    have h63 : i + 1 ≤ maxLen := by unfold maxLen; omega
    have hfin : ∀ (v' : Value) (w1 : World), w1.ownsRow base 3 1 v' (i + 1) (xs ++ [x]) → w.grownBy w1 v.ownBlock → (v'.ownBlock = v.ownBlock ∨ v'.ownBlock = some w.heap.size) →
        ∃ v'', Ending.returned v' = .returned v'' ∧ w1.ownsRow base 3 1 v'' (i + 1) (xs.take i ++ x :: xs.drop i) ∧ Only (fun k => v.ownBlock = some k) w w1 ∧ (v''.ownBlock = v.ownBlock ∨ v''.ownBlock = some w.heap.size) := by
      intro v' w1 h1 h2 h4
      refine ⟨v', rfl, ?_, Only.grown h2, h4⟩
      rw [List.take_of_length_le (by omega), List.drop_of_length_le (by omega)]
      exact h1
    rcases own_forms hown with ⟨rfl, rfl, rfl⟩ | ⟨g, cap, cur, rfl, hg, hh, hnc, hcm, hcs, _⟩
    · have HF := Lib.hid hfin; clear hfin
      have HL := Lib.hid hl; clear hl
      go_enter Try.func68, Try.ntmps68
      go_wp2_with (at_builtin; refine wpList_append_own_at _ rfl (.tmp 23) (.tmp 24) 31 rfl base 3 i0 _ 1 8 Try.underlying31 hi0 hz0 hz1 hz2 rfl (by decide) (.slice none 0 0) 0 [] rfl hown ⟨vb, 0, none⟩ 1 1 [x] rfl rfl hvc' (by simpa using hx) h63 (by omega) hbase ?_; intro v' w1 h1 h2 h3 h4)
      go_ret
      exact HF.out _ _ h1 h2 h4
    · rename_i hxl
      clear hxl
      have HF := Lib.hid hfin; clear hfin
      have HL := Lib.hid hl; clear hl
      have hgl : g < w.heap.size := (Array.getElem?_eq_some_iff.1 hh).1
      have HH := Lib.hid hh; have HS := Lib.hid hcs; clear hh hcs
      unfold maxLen at hcm
      go_enter Try.func68, Try.ntmps68
      go_wp2_with (at_builtin; refine wpList_append_own_at _ rfl (.tmp 23) (.tmp 24) 31 rfl base 3 i0 _ 1 8 Try.underlying31 hi0 hz0 hz1 hz2 rfl (by decide) (.slice (some ⟨g, 0, none⟩) i cap) i xs rfl hown ⟨vb, 0, none⟩ 1 1 [x] rfl rfl hvc' (by simpa using hx) h63 (by omega) hbase ?_; intro v' w1 h1 h2 h3 h4)
      all_goals
        go_ret
        exact HF.out _ _ h1 h2 h4
end Go.Proofs.Ytnkbbjeepdjamaa
/- A store into one cell beside a step that leaves its block alone. No condition. -/
namespace Go.Proofs.Ytnkbbjeepdjamaa
open Go.RowKit

structure PutAt (p o : Nat) (u : Value) (S : Nat → Prop) (w w' : World) : Prop where
  only : Only (fun k => k = p ∨ S k) w w'
  blk : ∀ cs t fr, w.heap[p]? = some (.cells cs t fr) → w'.heap[p]? = some (.cells (cs.setIfInBounds o u) t fr)
theorem PutAt.set {w w1 : World} {p o : Nat} {S : Nat → Prop} (h : Only S w w1) (hp : ¬ S p) (u : Value) (hlt : p < w.heap.size) : PutAt p o u S w (w1.setCell ⟨p, o, none⟩ u) := by
  refine ⟨(h.mono (fun k _ hk => .inr hk)).trans (Only.setCell w1 ⟨p, o, none⟩ u) (fun k _ hk => .inl hk), ?_⟩
  intro cs t fr hh
  have h1 : w1.heap[p]? = some (.cells cs t fr) := (h.block p hlt hp).trans hh
  simp [World.setCell, Array.getElem?_modify, h1]

theorem PutAt.trans {p o : Nat} {u u' : Value} {S S' : Nat → Prop} {a b c : World} (h : PutAt p o u S a b) (k : PutAt p o u' S' b c) (hS : ∀ x, x < a.heap.size → S' x → S x) : PutAt p o u' S a c := by
  refine ⟨h.only.trans k.only (fun x hx e => e.elim .inl (fun e => .inr (hS x hx e))), fun cs t fr hh => ?_⟩
  rw [k.blk _ _ _ (h.blk cs t fr hh)]
  congr 2
  rw [Array.setIfInBounds_setIfInBounds]
theorem PutAt.mono' {p o : Nat} {u : Value} {S S' : Nat → Prop} {a b : World} (h : PutAt p o u S a b) (hS : ∀ x, S x → S' x) : PutAt p o u S' a b := ⟨h.only.mono (fun x _ e => e.elim .inl (fun e => .inr (hS x e))), h.blk⟩
theorem PutAt.only_trans {p o : Nat} {u : Value} {S S' : Nat → Prop} {a b c : World} (h : PutAt p o u S a b) (k : Only S' b c) (hp : ¬ S' p) (hlt : p < b.heap.size) (hS : ∀ x, x < a.heap.size → S' x → S x) : PutAt p o u S a c :=
  ⟨h.only.trans k (fun x hx e => .inr (hS x hx e)), fun cs t fr hh => (k.block p hlt hp).trans (h.blk cs t fr hh)⟩
theorem PutAt.refl {p o : Nat} {u : Value} {S : Nat → Prop} {w : World} {cs : Array Value} {t : TypeId} {fr : Nat × Nat} (hp : w.heap[p]? = some (.cells cs t fr)) (ho : cs[o]? = some u) : PutAt p o u S w w :=
  ⟨Only.refl _ _, fun cs' t' fr' hh => by
    rw [hp] at hh
    injection hh with hh
    injection hh with h1 h2 h3
    subst h1 h2 h3
    rw [hp]
    congr 2
    apply Array.ext_getElem?
    intro k
    rw [Array.getElem?_setIfInBounds]
    split
    · rename_i e
      subst e
      rw [ho, if_pos (Array.getElem?_eq_some_iff.1 ho).1]
    · rfl⟩

end Go.Proofs.Ytnkbbjeepdjamaa
/- What the sets of bag.Set[int] do: one item put in, asked for; how many there are. Conditions: the set's row is the call's own and rises. -/
namespace Go.Proofs.Ytnkbbjeepdjamaa
open Go.RowKit

def enI (x : Int) : Value := .int .i64 x
theorem len_mapI (xs : List Int) : (xs.map enI).length = xs.length := by simp
theorem one_enI (xs : List Int) : ∀ u ∈ xs.map enI, u.oneCell' = true := by
  intro u hu
  obtain ⟨x, _, rfl⟩ := List.mem_map.1 hu
  rfl
theorem own_cellsI {w : World} {base n g cap : Nat} {xs : List Int} (h : w.ownsRow base 3 1 (.slice (some ⟨g, 0, none⟩) n cap) n (xs.map enI)) : ∀ k y, xs[k]? = some y → w.cell? ⟨g, k, none⟩ = some (.int .i64 y) :=
  fun k y hy => own_cell h k _ (by simp [hy, enI])
structure IsSetI (w : World) (base : Nat) (v : Value) (xs : List Int) : Prop where
  own : w.ownsRow base 3 1 v xs.length (xs.map enI)
  srt : Srt ltI xs
theorem IsSetI.only {S : Nat → Prop} {a b : World} {base : Nat} {v : Value} {xs : List Int} (h : IsSetI a base v xs) (ho : Only S a b) (hn : ∀ g, v.ownBlock = some g → ¬ S g) : IsSetI b base v xs := ⟨own_only ho h.own hn, h.srt⟩

/-- BinarySearch of a set's row. -/
theorem findI (base : Nat) (v : Value) (xs : List Int) (x : Int) (w : World) (h : IsSetI w base v xs) (hn : xs.length ≤ 1048576) :
    Calls Try.prog 64 #[v, .int .i64 x] w fun e w' => e = .returned (.tuple #[.int .i64 (lbd ltI x xs), .bool (decide (x ∈ xs))]) ∧ w = w' := by
  rcases own_forms h.own with ⟨rfl, _, hx⟩ | ⟨g, cap, cur, rfl, _⟩
  · obtain rfl : xs = [] := List.map_eq_nil_iff.1 hx
    exact (bsI_nil x w).mono fun e w' ⟨h1, h2⟩ => ⟨by rw [h1]; simp [lbd], h2⟩
  · exact bsI g _ cap xs x w (by omega) rfl h.srt (own_cellsI h.own)

set_option maxHeartbeats 1000000 in
theorem addI (base p o : Nat) (v : Value) (xs : List Int) (x : Int) (w : World) (h : IsSetI w base v xs) (hn : xs.length ≤ 1048576) (cs : Array Value) (t : TypeId) (hp : w.heap[p]? = some (.cells cs t (0, 0))) (ho : cs[o]? = some v)
    (hne : v.ownBlock ≠ some p) (hbase : base ≤ w.heap.size) :
    Calls Try.prog 38 #[.pointer (some ⟨p, o, none⟩), .int .i64 x] w fun e w' =>
      ∃ v', e = .returned (.bool (!decide (x ∈ xs))) ∧ IsSetI w' base v' (ins ltI x xs) ∧ PutAt p o v' (fun k => v.ownBlock = some k) w w' ∧ (v'.ownBlock = v.ownBlock ∨ (∃ g, v'.ownBlock = some g ∧ w.heap.size ≤ g)) := by
  have hlt : p < w.heap.size := (Array.getElem?_eq_some_iff.1 hp).1
  have hc : w.cell? ⟨p, o, none⟩ = some v := by rw [cell_of_blk w p _ _ _ hp]; exact ho
  have hF := findI base v xs x w h hn
  have HFIND := Lib.hid hF; clear hF
  by_cases hx : x ∈ xs
  · have hd : decide (x ∈ xs) = true := by simpa using hx
    have hins : ins ltI x xs = xs := by unfold ins; rw [if_pos hx]
    have hput : PutAt p o v (fun k => v.ownBlock = some k) w w := ⟨Only.refl _ _, fun cs' t' fr' hh => by
      rw [hp] at hh
      injection hh with hh
      injection hh with h1 h2 h3
      subst h1 h2 h3
      rw [hp]
      congr 2
      apply Array.ext_getElem?
      intro k
      rw [Array.getElem?_setIfInBounds]
      split
      · rename_i e
        subst e
        rw [ho, if_pos (Array.getElem?_eq_some_iff.1 ho).1]
      · rfl⟩
    rw [hd, hins]
    have HD := Lib.hid hd; clear hd hx hins hp ho
    have HP := Lib.hid hput; clear hput
    go_enter Try.func38, Try.ntmps38
    go_wp2_with fail
    refine HFIND.out.mono ?_; rintro e w' ⟨rfl, rfl⟩
    rw [HD.out]
    go_wp2
    go_ret
    exact ⟨v, rfl, h, HP.out, .inl rfl⟩
  · have hd : decide (x ∈ xs) = false := by simpa using hx
    have hins : ins ltI x xs = xs.take (lbd ltI x xs) ++ x :: xs.drop (lbd ltI x xs) := by unfold ins; rw [if_neg hx]
    have hsrt : Srt ltI (ins ltI x xs) := srt_ins ordI x xs h.srt
    obtain ⟨W1, hW1⟩ : ∃ W1, W1 = w.alloc (.cells #[.int .i64 x] 3) := ⟨_, rfl⟩
    have ho1 : Only (fun _ => False) w W1 := by rw [hW1]; exact Only.alloc _ w _
    have hsz : W1.heap.size = w.heap.size + 1 := by rw [hW1]; simp
    have hown1 : W1.ownsRow base 3 1 v xs.length (xs.map enI) := own_only ho1 h.own (fun _ _ => id)
    have hvb : W1.heap[w.heap.size]? = some (.cells #[.int .i64 x] 3 (0, 0)) := by rw [hW1]; exact heap_alloc_new w _
    have hne2 : v.ownBlock ≠ some w.heap.size := fun e => by have := (own_lt h.own e).1; omega
    have hI := insertI base v xs.length (lbd ltI x xs) w.heap.size (xs.map enI) (.int .i64 x) W1 rfl (one_enI xs) hn (lbd_le x xs) hown1 hvb hne2 (by omega)
    rw [hW1] at hI
    have HI := Lib.hid hI; clear hI
    have HD := Lib.hid hd; clear hd
    have HO := Lib.hid ho; have HPP := Lib.hid hp
    have HINS := Lib.hid hins; have HS := Lib.hid hsrt
    clear hins hsrt hp ho hvb hown1 hne2
    have HW := Lib.hid hW1; have HO1 := Lib.hid ho1; have HSZ := Lib.hid hsz
    clear hW1 ho1 hsz
    go_enter Try.func38, Try.ntmps38
    go_wp2_with fail
    refine HFIND.out.mono ?_; rintro e w' ⟨rfl, rfl⟩
    rw [HD.out]
    go_wp2_with fail
    refine HI.out.mono ?_
    rintro e w2 ⟨v', rfl, hown2, honly2, hnew⟩
    rw [← HW.out] at honly2 hnew
    obtain ⟨g', cap', rfl⟩ : ∃ g' cap', v' = .slice (some ⟨g', 0, none⟩) (xs.length + 1) cap' := by
      rcases own_forms hown2 with ⟨_, h0, _⟩ | ⟨g', cap', _, e, _⟩
      · omega
      · exact ⟨g', cap', e⟩
    have hpv : ¬ (v.ownBlock = some p) := hne
    have honly : Only (fun k => v.ownBlock = some k) w w2 := (HO1.out.mono (fun _ _ h => h.elim)).trans honly2 (fun _ _ h => h)
    have hh2 : w2.heap[p]? = some (.cells cs t (0, 0)) := (honly.block p hlt hpv).trans HPP.out
    have hc2 : w2.cell? ⟨p, o, none⟩ = some v := by rw [cell_of_blk w2 p _ _ _ hh2]; exact HO.out
    have hf2 : w2.frozen? ⟨p, o, none⟩ = false := by simp [World.frozen?, hh2]
    have hput := PutAt.set (o := o) honly hpv (.slice (some ⟨g', 0, none⟩) (xs.length + 1) cap') hlt
    have hnew' : (Value.slice (some ⟨g', 0, none⟩) (xs.length + 1) cap').ownBlock = v.ownBlock ∨ (∃ g, (Value.slice (some ⟨g', 0, none⟩) (xs.length + 1) cap').ownBlock = some g ∧ w.heap.size ≤ g) := by
      rcases hnew with e | e
      · exact .inl e
      · exact .inr ⟨_, e, by have := HSZ.out; omega⟩
    have hset : IsSetI (w2.setCell ⟨p, o, none⟩ (.slice (some ⟨g', 0, none⟩) (xs.length + 1) cap')) base (.slice (some ⟨g', 0, none⟩) (xs.length + 1) cap') (ins ltI x xs) := by
      refine ⟨?_, HS.out⟩
      have e1 : (ins ltI x xs).map enI = (xs.map enI).take (lbd ltI x xs) ++ Value.int .i64 x :: (xs.map enI).drop (lbd ltI x xs) := by
        rw [HINS.out]; simp [List.map_take, List.map_drop, enI]
      have e2 : (ins ltI x xs).length = xs.length + 1 := by rw [length_ins, if_neg hx]
      rw [e1, e2]
      refine own_only (Only.setCell w2 ⟨p, o, none⟩ _) hown2 (fun g hg e => ?_)
      subst e
      rcases hnew' with k | ⟨g1, k, hk⟩
      · exact hpv (by rw [← k]; exact hg)
      · rw [k] at hg; injection hg with hg; omega
    have HPUT := Lib.hid hput; have HSET := Lib.hid hset; have HNEW := Lib.hid hnew'
    clear hput hset hnew' hnew hown2 honly2 honly hh2
    go_wp2
    go_ret
    exact ⟨_, by rw [HD.out]; rfl, HSET.out, HPUT.out, HNEW.out⟩

theorem box_newI (w : World) (v : Value) (t : TypeId) : Below w.heap.size w (w.alloc (.cells #[v] t)) := (Below.refl _ _).alloc (Nat.le_refl _) _
theorem hasI (base : Nat) (v : Value) (xs : List Int) (x : Int) (w : World) (h : IsSetI w base v xs) (hn : xs.length ≤ 1048576) :
    Calls Try.prog 34 #[.agg #[v], .int .i64 x] w fun e w' => e = .returned (.bool (decide (x ∈ xs))) ∧ Below w.heap.size w w' := by
  have h1 : IsSetI (w.alloc (.cells #[v] 57)) base v xs := h.only (Only.alloc (fun _ => False) _ _) (fun _ _ => id)
  have hF := findI base v xs x _ h1 hn
  have HF := Lib.hid hF; clear hF
  go_enter Try.func34, Try.ntmps34
  go_wp2_with fail
  refine HF.out.mono ?_; rintro e w' ⟨rfl, rfl⟩
  go_wp2
  go_ret
  exact ⟨rfl, box_newI w _ _⟩
theorem lenI (base : Nat) (v : Value) (xs : List Int) (w : World) (h : IsSetI w base v xs) :
    Calls Try.prog 41 #[.agg #[v]] w fun e w' => e = .returned (.int .i64 xs.length) ∧ Below w.heap.size w w' := by
  rcases own_forms h.own with ⟨rfl, _, hx⟩ | ⟨g, cap, cur, rfl, _⟩
  · obtain rfl : xs = [] := List.map_eq_nil_iff.1 hx
    clear hx
    go_enter Try.func41, Try.ntmps41
    go_wp2
    go_ret
    exact ⟨rfl, box_newI w _ _⟩
  · go_enter Try.func41, Try.ntmps41
    go_wp2
    go_ret
    exact ⟨rfl, box_newI w _ _⟩
theorem eq_nilSI : ∀ w : World, (binOp .eql 31 (.slice none 0 0) (.slice none 0 0)).run Try.prog w = .ok (.bool true) w := fun w => by kernel_rfl
theorem cloneI_nil (w : World) : Calls Try.prog 56 #[.slice none 0 0] w fun e w' => e = .returned (.slice none 0 0) ∧ w = w' := by
  have e1 := eq_nilSI
  go_enter Try.func56, Try.ntmps56
  go_wp2
  go_ret
  exact ⟨rfl, rfl⟩
theorem cloneI_some (g n cap : Nat) (xs : List Value) (w : World) (hl : xs.length = n) (hn : n ≤ 1048576) (h1 : ∀ u ∈ xs, u.oneCell' = true) (hc : ∀ j u, xs[j]? = some u → w.cell? ⟨g, j, none⟩ = some u) :
    Calls Try.prog 56 #[.slice (some ⟨g, 0, none⟩) n cap] w fun e w' => ∃ v', e = .returned v' ∧ v' ≠ .slice none 0 0 ∧ w'.ownsRow w.heap.size 3 1 v' n xs ∧ Below w.heap.size w w' := by
  have hne := Lib.run_eql_slice_nil (P := Try.prog)
  have hown0 : (w.alloc (.cells #[] 3)).ownsRow w.heap.size 3 1 (.slice (some ⟨w.heap.size, 0, none⟩) 0 0) 0 [] :=
    ownsRow_of_cells (Nat.le_refl _) (heap_alloc_new w _) rfl (Nat.le_refl _) (by unfold maxLen; omega) rfl (fun j u hj => by simp at hj)
  have hc' : ∀ j u, xs[j]? = some u → (w.alloc (.cells #[] 3)).cell? ((⟨g, 0, none⟩ : Addr).add j) = some u := fun j u hj => by
    have h0 := hc j u hj
    have hg : g < w.heap.size := block_lt_of_cell h0
    rw [Addr.add_lit, Nat.zero_add, (Only.alloc (fun _ => False) w _).cell hg id]
    exact h0
  obtain ⟨i0, hi0, hz0, hz1, hz2⟩ := info_parts infoSI
  have HL := Lib.hid hl; clear hl
  have h63 : 0 + n ≤ maxLen := by unfold maxLen; omega
  go_enter Try.func56, Try.ntmps56
  go_wp2_with (at_builtin; refine wpList_append_own_at _ rfl (.tmp 5) (.tmp 6) 31 rfl w.heap.size 3 i0 _ 1 8 Try.underlying31 hi0 hz0 hz1 hz2 rfl (by decide) (.slice (some ⟨w.heap.size, 0, none⟩) 0 0) 0 [] rfl hown0 ⟨g, 0, none⟩ n cap xs rfl (by have := HL.out; omega) hc' h1 h63 (by omega) (by simp) ?_; intro v' w1 k1 k2 k3 k4)
  go_ret
  refine ⟨v', rfl, fun e => by have := k3.1 e; simp at this, by simpa using k1, ?_⟩
  exact ((Below.refl _ _).alloc (Nat.le_refl _) _).grown k2 (by simp) (fun k hk => by simp only [Value.ownBlock, Option.some.injEq] at hk; omega)
theorem cloneI (base : Nat) (v : Value) (xs : List Int) (w : World) (h : IsSetI w base v xs) (hn : xs.length ≤ 1048576) :
    Calls Try.prog 56 #[v] w fun e w' => ∃ v', e = .returned v' ∧ IsSetI w' w.heap.size v' xs ∧ Below w.heap.size w w' := by
  rcases own_forms h.own with ⟨rfl, _, hx⟩ | ⟨g, cap, cur, rfl, _⟩
  · obtain rfl : xs = [] := List.map_eq_nil_iff.1 hx
    refine (cloneI_nil w).mono ?_
    rintro e w' ⟨rfl, rfl⟩
    exact ⟨_, rfl, ⟨World.ownsRow_nil _ _ _ _, List.Pairwise.nil⟩, Below.refl _ _⟩
  · refine (cloneI_some g xs.length cap (xs.map enI) w (by simp) hn (one_enI xs) (fun j u hj => own_cell h.own j u hj)).mono ?_
    rintro e w' ⟨v', rfl, _, ho, hb⟩
    exact ⟨v', rfl, ⟨ho, h.srt⟩, hb⟩

/-- Of: a set out of a row of items: what was put in, one by one. -/
def ofLI (l : List Int) : List Int := l.foldl (fun s x => ins ltI x s) []
theorem ofLI_snoc (l : List Int) (x : Int) : ofLI (l ++ [x]) = ins ltI x (ofLI l) := by simp [ofLI]
theorem ofLI_len (l : List Int) : (ofLI l).length ≤ l.length := by
  have key : ∀ (l s : List Int), (l.foldl (fun s x => ins ltI x s) s).length ≤ s.length + l.length := by
    intro l
    induction l with
    | nil => intro s; simp
    | cons x l ih =>
      intro s
      have h1 := ih (ins ltI x s)
      have h2 := length_ins (lt := ltI) x s
      simp only [List.foldl_cons, List.length_cons]
      split at h2 <;> omega
  simpa [ofLI] using key l []
set_option maxHeartbeats 1000000 in
theorem ofI_none (A : Option Addr) (c : Nat) (w : World) :
    Calls Try.prog 36 #[.slice A 0 c] w fun e w' => ∃ v', e = .returned (.agg #[v']) ∧ IsSetI w' w.heap.size v' [] ∧ Below w.heap.size w w' := by
  go_enter Try.func36, Try.ntmps36
  go_wp2
  go_loop [8] (fun i => i = .int .i64 0) (fun _ => 0)
  case atStart => rfl
  case round =>
    obtain rfl := hrel
    go_wp2
    refine bodyPost_ret (v := .agg #[.slice none 0 0]) (by simp [results, Try.results36, go_sem]) rfl ⟨_, rfl, ⟨World.ownsRow_nil _ _ _ _, List.Pairwise.nil⟩, ?_⟩
    first
      | exact (((Below.refl w.heap.size w).alloc (Nat.le_refl _) _).alloc (by simp) _).setCell (p := ⟨w.heap.size, 0, none⟩) (Nat.le_refl _) _
      | exact ((Below.refl w.heap.size w).alloc (Nat.le_refl _) _).alloc (by simp) _
set_option maxHeartbeats 1000000 in
theorem ofI_some (g o n c : Nat) (l : List Int) (w : World) (hl : l.length = n) (hn : n ≤ 1048576) (hA : ∀ k y, l[k]? = some y → w.cell? ⟨g, o + k, none⟩ = some (.int .i64 y)) (hg : 0 < n) :
    Calls Try.prog 36 #[.slice (some ⟨g, o, none⟩) n c] w fun e w' => ∃ v', e = .returned (.agg #[v']) ∧ IsSetI w' w.heap.size v' (ofLI l) ∧ Below w.heap.size w w' := by
  have hglt : g < w.heap.size := block_lt_of_cell (hA 0 _ (List.getElem?_eq_getElem (by omega)))
  have HA := Lib.hid hA; clear hA
  have HL := Lib.hid hl; clear hl
  go_enter Try.func36, Try.ntmps36
  go_wp2
  obtain ⟨W1, hW1⟩ : ∃ W1, W1 = (w.alloc (.cells #[.slice none 0 0] 57)).alloc (.cells #[.slice none 0 0] 57) := ⟨_, rfl⟩
  have hB1 : Below w.heap.size w W1 := by rw [hW1]; exact ((Below.refl _ _).alloc (Nat.le_refl _) _).alloc (by simp) _
  have hp1 : W1.heap[w.heap.size + 1]? = some (.cells #[.slice none 0 0] 57 (0, 0)) := by
    rw [hW1]; have := heap_alloc_new (w.alloc (.cells #[.slice none 0 0] 57)) (.cells #[.slice none 0 0] 57); rwa [World.size_alloc] at this
  have hp0 : W1.heap[w.heap.size]? = some (.cells #[.slice none 0 0] 57 (0, 0)) := by
    rw [hW1]; exact (Below.heap_alloc _ _ _ (by simp)).trans (heap_alloc_new w _)
  rw [← hW1]
  clear hW1
  obtain ⟨B, HB⟩ : ∃ B, Hid (w.heap.size = B) := ⟨_, rfl⟩
  rw [HB.out] at hB1 hp1 hp0 hglt ⊢
  go_loopw [8] (fun i wr => ∃ (k : Nat) (v : Value), k ≤ n ∧ i = .int .i64 k ∧ Hid (IsSetI wr B v (ofLI (l.take k)) ∧ wr.heap[B + 1]? = some (.cells #[v] 57 (0, 0)) ∧ wr.heap[B]? = some (.cells #[.slice none 0 0] 57 (0, 0)) ∧ Below B w wr)) (fun i _ => n - (intOf i).toNat)
  case atStart => exact ⟨0, .slice none 0 0, by omega, rfl, ⟨World.ownsRow_nil _ _ _ _, List.Pairwise.nil⟩, hp1, hp0, hB1⟩
  case round =>
    obtain ⟨k, v, hk, rfl, hI⟩ := hrel
    have hI' := hI.out
    obtain ⟨hs, h1, h0, hb⟩ := hI'
    by_cases hlt : k < n
    · obtain ⟨y, hy⟩ : ∃ y, l[k]? = some y := ⟨_, List.getElem?_eq_getElem (by have := HL.out; omega)⟩
      have hc : wr.cell? ⟨g, o + k, none⟩ = some (.int .i64 y) := by rw [hb.cell (by exact hglt)]; exact HA.out k y hy
      have hlen : (ofLI (l.take k)).length ≤ 1048576 := by have := ofLI_len (l.take k); simp at this; omega
      have hadd := addI B (B + 1) 0 v _ y wr hs hlen _ _ h1 rfl (own_ne_blk hs.own h1 (by decide)) (by have := hb.size; have := HB.out; omega)
      have HADD := Lib.hid hadd; clear hadd
      have HY := Lib.hid hy
      have HH := Lib.hid (And.intro h1 h0)
      have HBB := Lib.hid hb
      have HS := Lib.hid hs
      clear hs h1 h0 hb hy hlen
      go_wp2_with fail
      refine HADD.out.mono ?_
      rintro e w2 ⟨v', rfl, hs2, hput, hnew⟩
      have hnext : Hid (IsSetI w2 B v' (ofLI (l.take (k + 1))) ∧ w2.heap[B + 1]? = some (.cells #[v'] 57 (0, 0)) ∧ w2.heap[B]? = some (.cells #[.slice none 0 0] 57 (0, 0)) ∧ Below B w w2) := by
        refine ⟨?_, ?_, ?_, ?_⟩
        · rw [take_snoc' l k y HY.out, ofLI_snoc]; exact hs2
        · exact hput.blk _ _ _ HH.out.1
        · refine (hput.only.block B (by have := HBB.out.size; have := HB.out; have := (Array.getElem?_eq_some_iff.1 HH.out.2).1; omega) ?_).trans HH.out.2
          rintro (h | h)
          · omega
          · exact own_ne_blk HS.out.own HH.out.2 (by decide) h
        · refine HBB.out.trans (hput.only.below (by have := HBB.out.size; have := HB.out; omega) ?_)
          rintro j hj (h | h)
          · omega
          · have := (own_lt HS.out.own h).2; omega
      clear hs2 hput hnew
      go_wp2
      go_roundw
      case rel => exact ⟨k + 1, v', by omega, by go_num, hnext⟩
      case measure => simp [intOf]; omega
    · obtain rfl : k = n := by omega
      have hcc : wr.cell? ⟨B + 1, 0, none⟩ = some v := by rw [cell_of_blk _ _ _ _ _ h1]; rfl
      have hc0 : wr.cell? ⟨B, 0, none⟩ = some (.slice none 0 0) := by rw [cell_of_blk _ _ _ _ _ h0]; rfl
      have hf0 : wr.frozen? ⟨B, 0, none⟩ = false := by simp [World.frozen?, h0]
      have hfin : IsSetI (wr.setCell ⟨B, 0, none⟩ v) B v (ofLI l) ∧ Below B w (wr.setCell ⟨B, 0, none⟩ v) ∧ (wr.setCell ⟨B, 0, none⟩ v).cell? ⟨B, 0, none⟩ = some v := by
        refine ⟨?_, hb.setCell (Nat.le_refl _) _, World.cell?_setCell_same' _ _ _ (by rw [hc0]; rfl)⟩
        rw [List.take_of_length_le (by have := HL.out; omega)] at hs
        exact hs.only (Only.setCell _ _ _) (fun g' hg' e => own_ne_blk hs.own h0 (by decide) (by rw [hg', e]))
      have hv1 := own_forms hs.own
      have HFIN := Lib.hid hfin
      clear hfin hs h1 h0 hb
      rcases hv1 with ⟨rfl, _, _⟩ | ⟨g', cap', _, rfl, _⟩
      all_goals
        go_wp2
        have hq := HFIN.out.2.2
        refine bodyPost_ret (by simp [results, Try.results36, go_sem, hq]; rfl) rfl ⟨_, rfl, by rw [HB.out]; exact HFIN.out.1, by rw [HB.out]; exact HFIN.out.2.1⟩
end Go.Proofs.Ytnkbbjeepdjamaa
