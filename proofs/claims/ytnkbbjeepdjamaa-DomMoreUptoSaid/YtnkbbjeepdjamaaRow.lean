/- A row in the call's own memory, from some place of its block on: what keeps it, one more behind it, its first taken away. Conditions: one-cell elements; the block is of the call's own. -/
import Derived.Test.YtnkbbjeepdjamaaMem
import Derived.ArgAppend
namespace Go.Proofs.Ytnkbbjeepdjamaa
open Go.RowKit

/-- The cells of the values, from some place of an own block on; there may be room behind them. -/
def RowAt (w : World) (base : Nat) (e : TypeId) (v : Value) (vs : List Value) : Prop :=
  (v = .slice none 0 0 ∧ vs = []) ∨ ∃ g o cap cur, v = .slice (some ⟨g, o, none⟩) vs.length cap ∧ base ≤ g ∧ w.heap[g]? = some (.cells cur e (0, 0)) ∧ vs.length ≤ cap ∧ cap ≤ maxLen ∧ o + cap ≤ cur.size ∧ ∀ j u, vs[j]? = some u → cur[o + j]? = some u
theorem RowAt.nil (w : World) (base : Nat) (e : TypeId) : RowAt w base e (.slice none 0 0) [] := .inl ⟨rfl, rfl⟩
theorem RowAt.of_own {w : World} {base n : Nat} {e : TypeId} {v : Value} {xs : List Value} (h : w.ownsRow base e 1 v n xs) : RowAt w base e v xs := by
  obtain ⟨hl, ⟨h1, h2⟩ | ⟨g, cap, cur, hv, hg, hh, hn, hc, hs, hx⟩⟩ := h
  · exact .inl ⟨h1, by subst h2; exact List.eq_nil_of_length_eq_zero (by omega)⟩
  · refine .inr ⟨g, 0, cap, cur, by rw [hv, hl]; simp, hg, hh, by omega, hc, by omega, fun j u hj => ?_⟩
    rw [← hx, List.getElem?_take] at hj
    split at hj
    · rw [Array.getElem?_toList] at hj
      rw [Nat.zero_add]; exact hj
    · cases hj
theorem RowAt.lt {w : World} {base : Nat} {e : TypeId} {v : Value} {vs : List Value} (h : RowAt w base e v vs) {g : Nat} (hg : v.ownBlock = some g) : g < w.heap.size ∧ base ≤ g := by
  rcases h with ⟨rfl, _⟩ | ⟨g', o, cap, cur, rfl, hb, hh, _⟩
  · cases hg
  · simp only [Value.ownBlock, Option.some.injEq] at hg
    subst hg
    exact ⟨(Array.getElem?_eq_some_iff.1 hh).1, hb⟩
theorem RowAt.only {S : Nat → Prop} {a b : World} (ho : Only S a b) {base : Nat} {e : TypeId} {v : Value} {vs : List Value} (h : RowAt a base e v vs) (hn : ∀ g, v.ownBlock = some g → ¬ S g) : RowAt b base e v vs := by
  have hb := fun g hg => h.lt (g := g) hg
  rcases h with h1 | ⟨g, o, cap, cur, rfl, hg, hh, r⟩
  · exact .inl h1
  · exact .inr ⟨g, o, cap, cur, rfl, hg, by rw [ho.block g (hb g rfl).1 (hn g rfl)]; exact hh, r⟩
theorem RowAt.ne_blk {w : World} {base p : Nat} {e t : TypeId} {v : Value} {vs : List Value} {cs : Array Value} {f : Nat × Nat} (h : RowAt w base e v vs) (hp : w.heap[p]? = some (.cells cs t f)) (hne : e ≠ t) : v.ownBlock ≠ some p := by
  rcases h with ⟨rfl, _⟩ | ⟨g, o, cap, cur, rfl, _, hh, _⟩
  · simp [Value.ownBlock]
  · intro hg
    simp only [Value.ownBlock, Option.some.injEq] at hg
    subst hg
    exact blk_ne hh hp hne rfl
theorem RowAt.ne_map {w : World} {base p : Nat} {e : TypeId} {v : Value} {vs : List Value} {es : Array MapEntry} {c : Nat} (h : RowAt w base e v vs) (hp : w.heap[p]? = some (.map es c)) : v.ownBlock ≠ some p := by
  rcases h with ⟨rfl, _⟩ | ⟨g, o, cap, cur, rfl, _, hh, _⟩
  · simp [Value.ownBlock]
  · intro hg
    simp only [Value.ownBlock, Option.some.injEq] at hg
    subst hg
    rw [hh] at hp; cases hp
/-- The value's two forms. -/
theorem RowAt.form {w : World} {base : Nat} {e : TypeId} {v : Value} {vs : List Value} (h : RowAt w base e v vs) : (v = .slice none 0 0 ∧ vs = []) ∨ ∃ g o cap, v = .slice (some ⟨g, o, none⟩) vs.length cap ∧ vs.length ≤ cap := by
  rcases h with h | ⟨g, o, cap, cur, rfl, _, _, h1, _⟩
  · exact .inl h
  · exact .inr ⟨g, o, cap, rfl, h1⟩
theorem RowAt.slice {w : World} {base : Nat} {e : TypeId} {v : Value} {vs : List Value} (h : RowAt w base e v vs) : ∃ A cap, v = .slice A vs.length cap := by
  rcases h with ⟨rfl, rfl⟩ | ⟨g, o, cap, cur, rfl, _⟩
  · exact ⟨none, 0, rfl⟩
  · exact ⟨_, cap, rfl⟩
theorem RowAt.cell {w : World} {base : Nat} {e : TypeId} {g o n c : Nat} {vs : List Value} (h : RowAt w base e (.slice (some ⟨g, o, none⟩) n c) vs) (j : Nat) (u : Value) (hj : vs[j]? = some u) : w.cell? ⟨g, o + j, none⟩ = some u := by
  rcases h with ⟨h, _⟩ | ⟨g', o', cap, cur, hv, _, hh, _, _, _, hx⟩
  · cases h
  · injection hv with h1 h2 h3
    injection h1 with h1
    injection h1 with h1 h4
    subst h1 h4
    rw [cell_of_blk w g cur e _ hh]; exact hx j u hj
/-- Its first is taken away. -/
theorem RowAt.tail {w : World} {base : Nat} {e : TypeId} {g o n c : Nat} {x : Value} {vs : List Value} (h : RowAt w base e (.slice (some ⟨g, o, none⟩) n c) (x :: vs)) (o' : Nat) (ho : o' = if c = 1 then o else o + 1) : RowAt w base e (.slice (some ⟨g, o', none⟩) vs.length (c - 1)) vs := by
  rcases h with ⟨h, _⟩ | ⟨g', q, cap, cur, hv, hb, hh, hl, hm, hs, hx⟩
  · cases h
  · injection hv with h1 h2 h3
    injection h1 with h1
    injection h1 with h1 h4
    subst h1 h4 h3
    simp only [List.length_cons] at hl
    refine .inr ⟨g, o', c - 1, cur, rfl, hb, hh, by omega, by omega, ?_, fun j u hj => ?_⟩
    · split at ho <;> omega
    · have hj' : j < vs.length := (List.getElem?_eq_some_iff.1 hj).1
      have := hx (j + 1) u (by simpa using hj)
      rw [if_neg (by omega)] at ho
      rw [ho, Nat.add_assoc, Nat.add_comm 1 j]; exact this
/-- One more behind it. -/
theorem RowAt.append {P : Program} {w : World} {base : Nat} (t ty e : TypeId) (i : TypeInfo) (z : Value) (bytes : Nat) (ht : P.underlying t = some (.slice e)) (hi : P.info? e = some i) (hz : i.zero = some z) (hsize : i.size = 1) (hby : i.bytes = bytes) (hzs : z.cells.size = 1)
    {v : Value} {vs : List Value} (h : RowAt w base e v vs) (ad : Addr) (x : Value) (hx : w.cell? ad = some x) (h1 : x.oneCell' = true) (hb : base ≤ w.heap.size) (h63 : vs.length + 1 ≤ maxLen) (hbytes : (vs.length + 1) * bytes ≤ 140737488355328) :
    ∃ v' w', (Builtin.append_ #[t, t] ty #[v, .slice (some ad) 1 1]).run P w = .ok v' w' ∧ RowAt w' base e v' (vs ++ [x]) ∧ Only (fun k => v.ownBlock = some k) w w' ∧ (v'.ownBlock = v.ownBlock ∨ ∃ g, v'.ownBlock = some g ∧ w.heap.size ≤ g) := by
  have hnews : ∀ j u, [x][j]? = some u → w.cell? (ad.add j) = some u := by
    intro j u hj
    match j, hj with
    | 0, hj => rw [show ad.add 0 = ad by simp [Addr.add]]; simpa [hx] using hj
    | j + 1, hj => simp at hj
  have hone : ∀ u ∈ [x], u.oneCell' = true := by simpa using h1
  have hgrown : ∀ v' w', w'.ownsRow w.heap.size e 1 v' (vs.length + 1) (vs ++ [x]) → w.grownBy w' none → RowAt w' base e v' (vs ++ [x]) ∧ Only (fun k => v.ownBlock = some k) w w' ∧ (v'.ownBlock = v.ownBlock ∨ ∃ g, v'.ownBlock = some g ∧ w.heap.size ≤ g) := by
    intro v' w' ho hg
    refine ⟨RowAt.of_own (own_base ho hb), (Only.grown hg).mono (fun k _ hk => by cases hk), .inr ?_⟩
    rcases own_forms ho with ⟨_, h2, _⟩ | ⟨g, cap, cur, rfl, hb', _⟩
    · omega
    · exact ⟨g, rfl, hb'⟩
  rcases h with ⟨rfl, rfl⟩ | ⟨g, o, cap, cur, rfl, hg, hh, hl, hm, hs, hcur⟩
  · obtain ⟨v', w', hr, r1, r2, _⟩ := run_append_own (P := P) w w.heap.size t ty e i z 1 bytes ht hi hz hsize hby hzs (by omega) (.slice none 0 0) 0 [] (World.ownsRow_nil w _ e 1) ad 1 1 [x] (by simp) hnews hone (by simpa using h63) (by simpa using hbytes) (Nat.le_refl _)
    exact ⟨v', w', hr, hgrown v' w' (by simpa using r1) (by simpa [Value.ownBlock] using r2)⟩
  · by_cases hroom : vs.length + 1 ≤ cap
    · have hr := run_append_room_cells (P := P) w t ty e i ht hi g o vs.length cap ad 1 1 [x] (by simp [hsize]) hnews hone hroom
        (fun j hj => by
          obtain rfl : j = 0 := by simp at hj; omega
          rw [hsize, cell_of_blk w g cur e _ hh, Array.getElem?_eq_getElem (by omega)]; rfl)
        (fun j _ => by simp [World.frozen?, hh])
      refine ⟨_, _, hr, .inr ⟨g, o, cap, cur.setIfInBounds (o + vs.length) x, by simp, hg, ?_, by simpa using hroom, hm, by simpa using hs, fun j u hj => ?_⟩, ?_, .inl rfl⟩
      · simp [hsize, World.setCells, World.setCell, Array.getElem?_modify, hh]
      · rw [Array.getElem?_setIfInBounds]
        by_cases hj' : j < vs.length
        · rw [if_neg (by omega)]
          rw [List.getElem?_append_left hj'] at hj
          exact hcur j u hj
        · rw [List.getElem?_append_right (by omega)] at hj
          have : j = vs.length := by
            have := (List.getElem?_eq_some_iff.1 hj).1
            simp at this; omega
          subst this
          simp at hj
          subst hj
          simp; omega
      · have := Only.setCell w ⟨g, o + vs.length, none⟩ x
        simp only [hsize, World.setCells, Nat.mul_one]
        exact this.mono (fun k _ hk => by subst hk; rfl)
    · obtain ⟨v', w', hr, r1, r2⟩ := run_append_arg_grows (P := P) w t ty e i z 1 bytes ht hi hz hsize hby hzs (by omega) ⟨g, o, none⟩ vs.length cap vs (by simp) (fun j u hj => by
          rw [Addr.add_lit, cell_of_blk w g cur e _ hh]; exact hcur j u hj) ad 1 1 [x] (by simp) hnews (by omega) h63 hbytes
      exact ⟨v', w', hr, hgrown v' w' r1 r2⟩
end Go.Proofs.Ytnkbbjeepdjamaa
