/- Plain facts on memory: a row of the call's own from its cells; what a run of stores into one block keeps; worlds that part in some blocks alone. No condition. -/
import Derived.WalkKit
import Derived.Laws.IdiomCopy
import Derived.Maps.AppendAt
import Derived.Lib.Hide
import Derived.Deep.Draws
import Derived.ArgAppend
import Derived.Test.YtnkbbjeepdjamaaProg
import Derived.OrdersHeld
import Derived.Deep.RegionHeld
import Derived.WalkLawsBesides
import Derived.WalkSpells
import Derived.Lib.AppendZeros
import Derived.Laws.MakeOwn
import Derived.Laws.OwnMore
import Derived.RegionTactic
import Derived.Deep.QuietTactic
import Derived.BigQuiet
namespace Go.Proofs.Ytnkbbjeepdjamaa
open Go.RowKit

theorem setCells_block (b : Nat) : ∀ (vs : List Value) (o : Nat) (w : World) (cur : Array Value) (e : TypeId) (fr : Nat × Nat), w.heap[b]? = some (.cells cur e fr) →
    ∃ cur', (w.setCells b o vs).heap[b]? = some (.cells cur' e fr) ∧ cur'.size = cur.size
  | [], _, w, cur, e, fr, h => ⟨cur, h, rfl⟩
  | v :: vs, o, w, cur, e, fr, h => by
    have h1 : (w.setCell ⟨b, o, none⟩ v).heap[b]? = some (.cells (cur.setIfInBounds o v) e fr) := by
      simp [World.setCell, Array.getElem?_modify, h]
    obtain ⟨cur', h2, h3⟩ := setCells_block b vs (o + 1) _ _ e fr h1
    exact ⟨cur', h2, by rw [h3]; simp⟩
theorem setCells_grown (b : Nat) : ∀ (vs : List Value) (o : Nat) (w : World), w.grownBy (w.setCells b o vs) (some b)
  | [], _, w => World.grownBy.refl w _
  | v :: vs, o, w => by
    have h1 : w.grownBy (w.setCell ⟨b, o, none⟩ v) (some b) :=
      ⟨rfl, rfl, rfl, by simp [World.setCell], fun k _ hk => Below.heap_setCell _ _ _ _ (fun e => hk (by rw [e]))⟩
    have h2 := setCells_grown b vs (o + 1) (w.setCell ⟨b, o, none⟩ v)
    exact ⟨h2.os.trans h1.os, h2.tape.trans h1.tape, h2.output.trans h1.output, Nat.le_trans h1.size h2.size,
      fun k hk hne => (h2.block k (Nat.lt_of_lt_of_le hk h1.size) hne).trans (h1.block k hk hne)⟩
theorem cell_of_blk (w : World) (g : Nat) (cur : Array Value) (e : TypeId) (fr : Nat × Nat) (h : w.heap[g]? = some (.cells cur e fr)) (j : Nat) : w.cell? ⟨g, j, none⟩ = cur[j]? := cell_of_row w g j cur e fr h
theorem ownsRow_of_cells {w : World} {base : Nat} {e : TypeId} {g n cap : Nat} {cur : Array Value} {xs : List Value} (hg : base ≤ g) (hh : w.heap[g]? = some (.cells cur e (0, 0))) (hs : cur.size = cap) (hn : n ≤ cap) (hc : cap ≤ maxLen)
    (hl : xs.length = n) (hx : ∀ j u, xs[j]? = some u → w.cell? ⟨g, j, none⟩ = some u) : w.ownsRow base e 1 (.slice (some ⟨g, 0, none⟩) n cap) n xs := by
  refine ⟨by omega, .inr ⟨g, cap, cur, rfl, hg, hh, hn, hc, by omega, ?_⟩⟩
  apply List.ext_getElem?
  intro j
  rw [List.getElem?_take]
  by_cases hj : j < n
  · rw [if_pos (by omega)]
    have h := hx j (xs[j]) (List.getElem?_eq_getElem (by omega))
    rw [cell_of_blk w g cur e _ hh] at h
    rw [Array.getElem?_toList, h, List.getElem?_eq_getElem (by omega)]
  · rw [if_neg (by omega), List.getElem?_eq_none (by omega)]
/-- The cells of an own row. -/
theorem own_cell {w : World} {base : Nat} {e : TypeId} {n g cap : Nat} {xs : List Value} (h : w.ownsRow base e 1 (.slice (some ⟨g, 0, none⟩) n cap) n xs) (j : Nat) (u : Value) (hj : xs[j]? = some u) : w.cell? ⟨g, j, none⟩ = some u := by
  obtain ⟨hl, h | ⟨g', cap', cur, hv, _, hh, _, _, _, hx⟩⟩ := h
  · cases h.1
  · injection hv with h1 h2 h3
    injection h1 with h1
    injection h1 with h1
    subst h1
    rw [cell_of_blk w g cur e _ hh, ← Array.getElem?_toList]
    rw [← hx] at hj
    rw [List.getElem?_take] at hj
    split at hj
    · exact hj
    · cases hj
/-- The two forms of an own row. -/
theorem own_forms {w : World} {base : Nat} {e : TypeId} {n : Nat} {v : Value} {xs : List Value} (h : w.ownsRow base e 1 v n xs) :
    (v = .slice none 0 0 ∧ n = 0 ∧ xs = []) ∨ (∃ g cap cur, v = .slice (some ⟨g, 0, none⟩) n cap ∧ base ≤ g ∧ w.heap[g]? = some (.cells cur e (0, 0)) ∧ n ≤ cap ∧ cap ≤ maxLen ∧ cur.size = cap ∧ xs.length = n) := by
  obtain ⟨hl, ⟨h1, h2⟩ | ⟨g, cap, cur, hv, hg, hh, hn, hc, hs, hx⟩⟩ := h
  · exact .inl ⟨h1, h2, by subst h2; exact List.eq_nil_of_length_eq_zero (by omega)⟩
  · exact .inr ⟨g, cap, cur, hv, hg, hh, hn, hc, by omega, by omega⟩

/-- The worlds part in some blocks, and in new ones, alone. -/
structure Only (S : Nat → Prop) (w w' : World) : Prop where
  os : w'.os = w.os
  tape : w'.tape = w.tape
  output : w'.output = w.output
  size : w.heap.size ≤ w'.heap.size
  block : ∀ k, k < w.heap.size → ¬ S k → w'.heap[k]? = w.heap[k]?
theorem Only.refl (S : Nat → Prop) (w : World) : Only S w w := ⟨rfl, rfl, rfl, Nat.le_refl _, fun _ _ _ => rfl⟩
theorem Only.trans {S S' : Nat → Prop} {a b c : World} (h : Only S a b) (k : Only S' b c) (hS : ∀ x, x < a.heap.size → S' x → S x) : Only S a c :=
  ⟨k.os.trans h.os, k.tape.trans h.tape, k.output.trans h.output, Nat.le_trans h.size k.size,
   fun x hx hn => (k.block x (Nat.lt_of_lt_of_le hx h.size) (fun h' => hn (hS x hx h'))).trans (h.block x hx hn)⟩
theorem Only.mono {S S' : Nat → Prop} {a b : World} (h : Only S a b) (hS : ∀ x, x < a.heap.size → S x → S' x) : Only S' a b :=
  ⟨h.os, h.tape, h.output, h.size, fun x hx hn => h.block x hx (fun h' => hn (hS x hx h'))⟩
theorem Only.grown {a b : World} {row : Option Nat} (h : a.grownBy b row) : Only (fun k => row = some k) a b :=
  ⟨h.os, h.tape, h.output, h.size, fun k hk hn => h.block k hk (fun e => hn e.symm)⟩
theorem Only.of_below {B : Nat} {a b : World} (h : Below B a b) : Only (fun k => B ≤ k) a b := ⟨h.os, h.tape, h.output, h.size, fun k _ hn => h.block k (by omega)⟩
theorem Only.below {S : Nat → Prop} {a b : World} (h : Only S a b) {B : Nat} (hB : B ≤ a.heap.size) (hS : ∀ k, k < B → ¬ S k) : Below B a b :=
  ⟨h.os, h.tape, h.output, h.size, fun k hk => h.block k (by omega) (hS k hk)⟩
theorem Only.alloc (S : Nat → Prop) (w : World) (o : Obj) : Only S w (w.alloc o) := ⟨rfl, rfl, rfl, by simp, fun k hk _ => Below.heap_alloc w o k hk⟩
theorem Only.setCell (w : World) (p : Addr) (u : Value) : Only (fun k => k = p.block) w (w.setCell p u) := ⟨rfl, rfl, rfl, by simp [World.setCell], fun k _ hn => Below.heap_setCell w p u k hn⟩
theorem Only.drew (S : Nat → Prop) (w : World) : Only S w w.drew := ⟨rfl, rfl, rfl, Nat.le_refl _, fun _ _ _ => rfl⟩
theorem Only.drewN (S : Nat → Prop) (w : World) (n : Nat) : Only S w (w.drewN n) := ⟨rfl, rfl, rfl, Nat.le_refl _, fun _ _ _ => rfl⟩
theorem Only.cell {S : Nat → Prop} {a b : World} (h : Only S a b) {p : Addr} (hp : p.block < a.heap.size) (hn : ¬ S p.block) : b.cell? p = a.cell? p := World.cell?_of_block (w := a) (h.block _ hp hn)
theorem Only.frozen {S : Nat → Prop} {a b : World} (h : Only S a b) {p : Addr} (hp : p.block < a.heap.size) (hn : ¬ S p.block) : b.frozen? p = a.frozen? p := World.frozen?_of_block (w := a) (h.block _ hp hn)
theorem own_lt {w : World} {base : Nat} {e : TypeId} {size n : Nat} {v : Value} {xs : List Value} (h : w.ownsRow base e size v n xs) {g : Nat} (hg : v.ownBlock = some g) : g < w.heap.size ∧ base ≤ g := by
  rcases h.2 with ⟨rfl, _⟩ | ⟨g', cap, cur, rfl, hb, hh, _⟩
  · cases hg
  · simp only [Value.ownBlock, Option.some.injEq] at hg
    subst hg
    exact ⟨(Array.getElem?_eq_some_iff.1 hh).1, hb⟩
/-- An own row stays, where its block does. -/
theorem own_only {S : Nat → Prop} {a b : World} (h : Only S a b) {base : Nat} {e : TypeId} {size n : Nat} {v : Value} {xs : List Value} (ho : a.ownsRow base e size v n xs) (hn : ∀ g, v.ownBlock = some g → ¬ S g) : b.ownsRow base e size v n xs := by
  have hb := fun g hg => own_lt ho (g := g) hg
  refine ⟨ho.1, ?_⟩
  rcases ho.2 with h1 | ⟨g, cap, cur, rfl, hg, hh, r⟩
  · exact .inl h1
  · exact .inr ⟨g, cap, cur, rfl, hg, by rw [h.block g (hb g rfl).1 (hn g rfl)]; exact hh, r⟩
theorem own_base {w : World} {base base' : Nat} {e : TypeId} {size n : Nat} {v : Value} {xs : List Value} (h : w.ownsRow base e size v n xs) (hb : base' ≤ base) : w.ownsRow base' e size v n xs := by
  refine ⟨h.1, ?_⟩
  rcases h.2 with h1 | ⟨g, cap, cur, hv, hg, r⟩
  · exact .inl h1
  · exact .inr ⟨g, cap, cur, hv, Nat.le_trans hb hg, r⟩
/-- Two rows of different element types lie in different blocks. -/
theorem blk_ne {w : World} {g g' : Nat} {cs cs' : Array Value} {t t' : TypeId} {f f' : Nat × Nat} (h : w.heap[g]? = some (.cells cs t f)) (h' : w.heap[g']? = some (.cells cs' t' f')) (hne : t ≠ t') : g ≠ g' := by
  rintro rfl
  rw [h] at h'
  injection h' with h'
  injection h' with _ ht _
  exact hne ht
theorem own_ne_blk {w : World} {base : Nat} {e t : TypeId} {size n p : Nat} {v : Value} {xs : List Value} {cs : Array Value} {f : Nat × Nat} (h : w.ownsRow base e size v n xs) (hp : w.heap[p]? = some (.cells cs t f)) (hne : e ≠ t) : v.ownBlock ≠ some p := by
  rcases h.2 with ⟨rfl, _⟩ | ⟨g, cap, cur, rfl, _, hh, _⟩
  · simp [Value.ownBlock]
  · intro hg
    simp only [Value.ownBlock, Option.some.injEq] at hg
    subst hg
    exact blk_ne hh hp hne rfl
theorem take_snoc' {α : Type} (l : List α) (k : Nat) (x : α) (h : l[k]? = some x) : l.take (k + 1) = l.take k ++ [x] := by
  rw [List.take_add_one, h]; rfl
end Go.Proofs.Ytnkbbjeepdjamaa
/- A row in the call's own memory, from some place of its block on: what keeps it, one more behind it, its first taken away. Conditions: one-cell elements; the block is of the call's own. -/
namespace Go.Proofs.Ytnkbbjeepdjamaa
open Go.RowKit

/-- The cells of the values, from some place of an own block on; there may be room behind them. -/
def RowAt (w : World) (base : Nat) (e : TypeId) (v : Value) (vs : List Value) : Prop :=
  (v = .slice none 0 0 ∧ vs = []) ∨ ∃ g o cap cur, v = .slice (some ⟨g, o, none⟩) vs.length cap ∧ base ≤ g ∧ w.heap[g]? = some (.cells cur e (0, 0)) ∧ vs.length ≤ cap ∧ cap ≤ maxLen ∧ o + cap ≤ cur.size ∧ ∀ j u, vs[j]? = some u → cur[o + j]? = some u
theorem RowAt.nil (w : World) (base : Nat) (e : TypeId) : RowAt w base e (.slice none 0 0) [] := .inl ⟨rfl, rfl⟩
theorem RowAt.of_own {w : World} {base n : Nat} {e : TypeId} {v : Value} {xs : List Value} (h : w.ownsRow base e 1 v n xs) : RowAt w base e v xs := by
  obtain ⟨hl, ⟨h1, h2⟩ | ⟨g, cap, cur, hv, hg, hh, hn, hc, hs, hx⟩⟩ := h
  · exact .inl ⟨h1, by subst h2; exact List.eq_nil_of_length_eq_zero (by omega)⟩
  · refine .inr ⟨g, 0, cap, cur, by rw [hv, hl]; simp, hg, hh, by omega, hc, by omega, fun j u hj => ?_⟩
    rw [← hx, List.getElem?_take] at hj
    split at hj
    · rw [Array.getElem?_toList] at hj
      rw [Nat.zero_add]; exact hj
    · cases hj
theorem RowAt.lt {w : World} {base : Nat} {e : TypeId} {v : Value} {vs : List Value} (h : RowAt w base e v vs) {g : Nat} (hg : v.ownBlock = some g) : g < w.heap.size ∧ base ≤ g := by
  rcases h with ⟨rfl, _⟩ | ⟨g', o, cap, cur, rfl, hb, hh, _⟩
  · cases hg
  · simp only [Value.ownBlock, Option.some.injEq] at hg
    subst hg
    exact ⟨(Array.getElem?_eq_some_iff.1 hh).1, hb⟩
theorem RowAt.only {S : Nat → Prop} {a b : World} (ho : Only S a b) {base : Nat} {e : TypeId} {v : Value} {vs : List Value} (h : RowAt a base e v vs) (hn : ∀ g, v.ownBlock = some g → ¬ S g) : RowAt b base e v vs := by
  have hb := fun g hg => h.lt (g := g) hg
  rcases h with h1 | ⟨g, o, cap, cur, rfl, hg, hh, r⟩
  · exact .inl h1
  · exact .inr ⟨g, o, cap, cur, rfl, hg, by rw [ho.block g (hb g rfl).1 (hn g rfl)]; exact hh, r⟩
theorem RowAt.ne_blk {w : World} {base p : Nat} {e t : TypeId} {v : Value} {vs : List Value} {cs : Array Value} {f : Nat × Nat} (h : RowAt w base e v vs) (hp : w.heap[p]? = some (.cells cs t f)) (hne : e ≠ t) : v.ownBlock ≠ some p := by
  rcases h with ⟨rfl, _⟩ | ⟨g, o, cap, cur, rfl, _, hh, _⟩
  · simp [Value.ownBlock]
  · intro hg
    simp only [Value.ownBlock, Option.some.injEq] at hg
    subst hg
    exact blk_ne hh hp hne rfl
theorem RowAt.ne_map {w : World} {base p : Nat} {e : TypeId} {v : Value} {vs : List Value} {es : Array MapEntry} {c : Nat} (h : RowAt w base e v vs) (hp : w.heap[p]? = some (.map es c)) : v.ownBlock ≠ some p := by
  rcases h with ⟨rfl, _⟩ | ⟨g, o, cap, cur, rfl, _, hh, _⟩
  · simp [Value.ownBlock]
  · intro hg
    simp only [Value.ownBlock, Option.some.injEq] at hg
    subst hg
    rw [hh] at hp; cases hp
/-- The value's two forms. -/
theorem RowAt.form {w : World} {base : Nat} {e : TypeId} {v : Value} {vs : List Value} (h : RowAt w base e v vs) : (v = .slice none 0 0 ∧ vs = []) ∨ ∃ g o cap, v = .slice (some ⟨g, o, none⟩) vs.length cap ∧ vs.length ≤ cap := by
  rcases h with h | ⟨g, o, cap, cur, rfl, _, _, h1, _⟩
  · exact .inl h
  · exact .inr ⟨g, o, cap, rfl, h1⟩
theorem RowAt.slice {w : World} {base : Nat} {e : TypeId} {v : Value} {vs : List Value} (h : RowAt w base e v vs) : ∃ A cap, v = .slice A vs.length cap := by
  rcases h with ⟨rfl, rfl⟩ | ⟨g, o, cap, cur, rfl, _⟩
  · exact ⟨none, 0, rfl⟩
  · exact ⟨_, cap, rfl⟩
theorem RowAt.cell {w : World} {base : Nat} {e : TypeId} {g o n c : Nat} {vs : List Value} (h : RowAt w base e (.slice (some ⟨g, o, none⟩) n c) vs) (j : Nat) (u : Value) (hj : vs[j]? = some u) : w.cell? ⟨g, o + j, none⟩ = some u := by
  rcases h with ⟨h, _⟩ | ⟨g', o', cap, cur, hv, _, hh, _, _, _, hx⟩
  · cases h
  · injection hv with h1 h2 h3
    injection h1 with h1
    injection h1 with h1 h4
    subst h1 h4
    rw [cell_of_blk w g cur e _ hh]; exact hx j u hj
/-- Its first is taken away. -/
theorem RowAt.tail {w : World} {base : Nat} {e : TypeId} {g o n c : Nat} {x : Value} {vs : List Value} (h : RowAt w base e (.slice (some ⟨g, o, none⟩) n c) (x :: vs)) (o' : Nat) (ho : o' = if c = 1 then o else o + 1) : RowAt w base e (.slice (some ⟨g, o', none⟩) vs.length (c - 1)) vs := by
  rcases h with ⟨h, _⟩ | ⟨g', q, cap, cur, hv, hb, hh, hl, hm, hs, hx⟩
  · cases h
  · injection hv with h1 h2 h3
    injection h1 with h1
    injection h1 with h1 h4
    subst h1 h4 h3
    simp only [List.length_cons] at hl
    refine .inr ⟨g, o', c - 1, cur, rfl, hb, hh, by omega, by omega, ?_, fun j u hj => ?_⟩
    · split at ho <;> omega
    · have hj' : j < vs.length := (List.getElem?_eq_some_iff.1 hj).1
      have := hx (j + 1) u (by simpa using hj)
      rw [if_neg (by omega)] at ho
      rw [ho, Nat.add_assoc, Nat.add_comm 1 j]; exact this
/-- One more behind it. -/
theorem RowAt.append {P : Program} {w : World} {base : Nat} (t ty e : TypeId) (i : TypeInfo) (z : Value) (bytes : Nat) (ht : P.underlying t = some (.slice e)) (hi : P.info? e = some i) (hz : i.zero = some z) (hsize : i.size = 1) (hby : i.bytes = bytes) (hzs : z.cells.size = 1)
    {v : Value} {vs : List Value} (h : RowAt w base e v vs) (ad : Addr) (x : Value) (hx : w.cell? ad = some x) (h1 : x.oneCell' = true) (hb : base ≤ w.heap.size) (h63 : vs.length + 1 ≤ maxLen) (hbytes : (vs.length + 1) * bytes ≤ 140737488355328) :
    ∃ v' w', (Builtin.append_ #[t, t] ty #[v, .slice (some ad) 1 1]).run P w = .ok v' w' ∧ RowAt w' base e v' (vs ++ [x]) ∧ Only (fun k => v.ownBlock = some k) w w' ∧ (v'.ownBlock = v.ownBlock ∨ ∃ g, v'.ownBlock = some g ∧ w.heap.size ≤ g) := by
  have hnews : ∀ j u, [x][j]? = some u → w.cell? (ad.add j) = some u := by
    intro j u hj
    match j, hj with
    | 0, hj => rw [show ad.add 0 = ad by simp [Addr.add]]; simpa [hx] using hj
    | j + 1, hj => simp at hj
  have hone : ∀ u ∈ [x], u.oneCell' = true := by simpa using h1
  have hgrown : ∀ v' w', w'.ownsRow w.heap.size e 1 v' (vs.length + 1) (vs ++ [x]) → w.grownBy w' none → RowAt w' base e v' (vs ++ [x]) ∧ Only (fun k => v.ownBlock = some k) w w' ∧ (v'.ownBlock = v.ownBlock ∨ ∃ g, v'.ownBlock = some g ∧ w.heap.size ≤ g) := by
    intro v' w' ho hg
    refine ⟨RowAt.of_own (own_base ho hb), (Only.grown hg).mono (fun k _ hk => by cases hk), .inr ?_⟩
    rcases own_forms ho with ⟨_, h2, _⟩ | ⟨g, cap, cur, rfl, hb', _⟩
    · omega
    · exact ⟨g, rfl, hb'⟩
  rcases h with ⟨rfl, rfl⟩ | ⟨g, o, cap, cur, rfl, hg, hh, hl, hm, hs, hcur⟩
  · obtain ⟨v', w', hr, r1, r2, _⟩ := run_append_own (P := P) w w.heap.size t ty e i z 1 bytes ht hi hz hsize hby hzs (by omega) (.slice none 0 0) 0 [] (World.ownsRow_nil w _ e 1) ad 1 1 [x] (by simp) hnews hone (by simpa using h63) (by simpa using hbytes) (Nat.le_refl _)
    exact ⟨v', w', hr, hgrown v' w' (by simpa using r1) (by simpa [Value.ownBlock] using r2)⟩
  · by_cases hroom : vs.length + 1 ≤ cap
    · have hr := run_append_room_cells (P := P) w t ty e i ht hi g o vs.length cap ad 1 1 [x] (by simp [hsize]) hnews hone hroom
        (fun j hj => by
          obtain rfl : j = 0 := by simp at hj; omega
          rw [hsize, cell_of_blk w g cur e _ hh, Array.getElem?_eq_getElem (by omega)]; rfl)
        (fun j _ => by simp [World.frozen?, hh])
      refine ⟨_, _, hr, .inr ⟨g, o, cap, cur.setIfInBounds (o + vs.length) x, by simp, hg, ?_, by simpa using hroom, hm, by simpa using hs, fun j u hj => ?_⟩, ?_, .inl rfl⟩
      · simp [hsize, World.setCells, World.setCell, Array.getElem?_modify, hh]
      · rw [Array.getElem?_setIfInBounds]
        by_cases hj' : j < vs.length
        · rw [if_neg (by omega)]
          rw [List.getElem?_append_left hj'] at hj
          exact hcur j u hj
        · rw [List.getElem?_append_right (by omega)] at hj
          have : j = vs.length := by
            have := (List.getElem?_eq_some_iff.1 hj).1
            simp at this; omega
          subst this
          simp at hj
          subst hj
          simp; omega
      · have := Only.setCell w ⟨g, o + vs.length, none⟩ x
        simp only [hsize, World.setCells, Nat.mul_one]
        exact this.mono (fun k _ hk => by subst hk; rfl)
    · obtain ⟨v', w', hr, r1, r2⟩ := run_append_arg_grows (P := P) w t ty e i z 1 bytes ht hi hz hsize hby hzs (by omega) ⟨g, o, none⟩ vs.length cap vs (by simp) (fun j u hj => by
          rw [Addr.add_lit, cell_of_blk w g cur e _ hh]; exact hcur j u hj) ad 1 1 [x] (by simp) hnews (by omega) h63 hbytes
      exact ⟨v', w', hr, hgrown v' w' r1 r2⟩
end Go.Proofs.Ytnkbbjeepdjamaa
/- Rows of numbers in memory, a block of such rows: what is read, one more in a row, what keeps them. Conditions: one-cell elements; the blocks are of the call's own. -/
namespace Go.Proofs.Ytnkbbjeepdjamaa
open Go.RowKit

def iv (x : Nat) : Value := .int .i64 (x : Int)
theorem one_iv (l : List Nat) : ∀ u ∈ l.map iv, u.oneCell' = true := by
  intro u hu; obtain ⟨x, _, rfl⟩ := List.mem_map.1 hu; rfl
theorem infoI : (Try.prog.info? 3).map (fun i => (i.zero, i.size, i.bytes)) = some (some (.int .i64 0), 1, 8) := by kernel_rfl
theorem infoS : (Try.prog.info? 31).map (fun i => (i.zero, i.size, i.bytes)) = some (some (.slice none 0 0), 1, 24) := by kernel_rfl
theorem infoB : (Try.prog.info? 4).map (fun i => (i.zero, i.size, i.bytes)) = some (some (.bool false), 1, 1) := by kernel_rfl
theorem lt_blk {w : World} {g : Nat} {o : Obj} (h : w.heap[g]? = some o) : g < w.heap.size := (Array.getElem?_eq_some_iff.1 h).1

/-- A block of rows of numbers. -/
structure Mat (w : World) (base q : Nat) (vs : List Value) (f : List (List Nat)) : Prop where
  blk : w.heap[q]? = some (.cells vs.toArray 31 (0, 0))
  len : vs.length = f.length
  ge : base ≤ q
  row : ∀ (i : Nat) v l, vs[i]? = some v → f[i]? = some l → RowAt w base 3 v (l.map iv)
  inj : ∀ (i j : Nat) v u g, vs[i]? = some v → vs[j]? = some u → v.ownBlock = some g → u.ownBlock = some g → i = j
/-- Its blocks. -/
def MatB (q : Nat) (vs : List Value) (g : Nat) : Prop := g = q ∨ ∃ (i : Nat) (v : Value), vs[i]? = some v ∧ v.ownBlock = some g
section
variable {w w' : World} {base q : Nat} {vs : List Value} {f : List (List Nat)}
theorem Mat.get (h : Mat w base q vs f) {i : Nat} (hi : i < f.length) : ∃ v l, vs[i]? = some v ∧ f[i]? = some l ∧ RowAt w base 3 v (l.map iv) := by
  have h1 : i < vs.length := by rw [h.len]; exact hi
  exact ⟨_, _, List.getElem?_eq_getElem h1, List.getElem?_eq_getElem hi, h.row i _ _ (List.getElem?_eq_getElem h1) (List.getElem?_eq_getElem hi)⟩
theorem Mat.lt (h : Mat w base q vs f) {g : Nat} (hg : MatB q vs g) : g < w.heap.size ∧ base ≤ g := by
  rcases hg with rfl | ⟨i, v, hv, hg⟩
  · exact ⟨lt_blk h.blk, h.ge⟩
  · have hi : i < f.length := by rw [← h.len]; exact (List.getElem?_eq_some_iff.1 hv).1
    exact (h.row i v _ hv (List.getElem?_eq_getElem hi)).lt hg
theorem Mat.only {S : Nat → Prop} (h : Mat w base q vs f) (ho : Only S w w') (hn : ∀ g, MatB q vs g → ¬ S g) : Mat w' base q vs f :=
  ⟨(ho.block q (lt_blk h.blk) (hn q (.inl rfl))).trans h.blk, h.len, h.ge, fun i v l hv hl => (h.row i v l hv hl).only ho (fun g hg => hn g (.inr ⟨i, v, hv, hg⟩)), h.inj⟩
theorem Mat.later (h : Mat w base q vs f) (hb : Below w.heap.size w w') : Mat w' base q vs f := h.only (Only.of_below hb) (fun g hg e => by have := (h.lt hg).1; omega)
theorem Mat.drewN (h : Mat w base q vs f) (n : Nat) : Mat (w.drewN n) base q vs f := h.only (Only.drewN (fun _ => False) w n) (fun _ _ e => e)
theorem Mat.cell (h : Mat w base q vs f) (i : Nat) : w.cell? ⟨q, i, none⟩ = vs[i]? := by rw [cell_of_blk _ _ _ _ _ h.blk]; simp
theorem Mat.frozen (h : Mat w base q vs f) (i : Nat) : w.frozen? ⟨q, i, none⟩ = false := by simp [World.frozen?, h.blk]
/-- Another value in one of its places: its row has one more. -/
theorem Mat.set {w1 : World} (h : Mat w base q vs f) {i : Nat} {v v' : Value} {l l' : List Nat} (hv : vs[i]? = some v) (hl : f[i]? = some l) (ho : Only (fun k => v.ownBlock = some k) w w1) (hr : RowAt w1 base 3 v' (l'.map iv))
    (hb : v'.ownBlock = v.ownBlock ∨ ∃ g, v'.ownBlock = some g ∧ w.heap.size ≤ g) :
    Mat (w1.setCell ⟨q, i, none⟩ v') base q (vs.set i v') (f.set i l') ∧ Only (MatB q vs) w (w1.setCell ⟨q, i, none⟩ v') ∧ ∀ g, MatB q (vs.set i v') g → MatB q vs g ∨ w.heap.size ≤ g := by
  have hi : i < vs.length := (List.getElem?_eq_some_iff.1 hv).1
  have hvq : v.ownBlock ≠ some q := (h.row i v l hv hl).ne_blk h.blk (by decide)
  have hq1 : w1.heap[q]? = some (.cells vs.toArray 31 (0, 0)) := (ho.block q (lt_blk h.blk) (fun e => hvq e)).trans h.blk
  have hv'q : v'.ownBlock ≠ some q := hr.ne_blk hq1 (by decide)
  have hs := Only.setCell w1 ⟨q, i, none⟩ v'
  refine ⟨⟨?_, by simp [h.len], h.ge, fun j u m hu hm => ?_, fun j k u u' g hu hu' hg hg' => ?_⟩, ?_, fun g hg => ?_⟩
  · have e : (vs.set i v').toArray = vs.toArray.setIfInBounds i v' := by simp
    rw [e]
    simp [World.setCell, Array.getElem?_modify, hq1]
  · by_cases e : i = j
    · subst e
      rw [List.getElem?_set_self hi] at hu
      rw [List.getElem?_set_self (by rw [← h.len]; exact hi)] at hm
      cases hu; cases hm
      exact hr.only hs (fun g hg e => hv'q (by rw [hg]; exact congrArg some e))
    · rw [List.getElem?_set_ne e] at hu hm
      have hrow := h.row j u m hu hm
      exact (hrow.only ho (fun g hg hg2 => e (h.inj i j v u g hv hu hg2 hg))).only hs (fun g hg e => hrow.ne_blk h.blk (by decide) (by rw [hg]; exact congrArg some e))
  · have old : ∀ (j : Nat) u g, (vs.set i v')[j]? = some u → j ≠ i → u.ownBlock = some g → vs[j]? = some u ∧ g < w.heap.size := fun j u g hu hji hg => by
      rw [List.getElem?_set_ne (fun e => hji e.symm)] at hu
      exact ⟨hu, (h.lt (.inr ⟨j, u, hu, hg⟩)).1⟩
    have new : ∀ (j : Nat) u g, (vs.set i v')[j]? = some u → j ≠ i → u.ownBlock = some g → v'.ownBlock ≠ some g := fun j u g hu hji hg e => by
      obtain ⟨h1, h2⟩ := old j u g hu hji hg
      rcases hb with hb | ⟨g', hb, h3⟩
      · exact hji (h.inj j i u v g h1 hv hg (by rw [← hb]; exact e))
      · rw [hb] at e; injection e with e; omega
    by_cases ej : j = i
    · by_cases ek : k = i
      · rw [ej, ek]
      · subst ej
        rw [List.getElem?_set_self hi] at hu
        cases hu
        exact absurd hg (new k u' g hu' ek hg')
    · by_cases ek : k = i
      · subst ek
        rw [List.getElem?_set_self hi] at hu'
        cases hu'
        exact absurd hg' (new j u g hu ej hg)
      · exact h.inj j k u u' g (old j u g hu ej hg).1 (old k u' g hu' ek hg').1 hg hg'
  · exact (ho.mono (fun k _ hk => (.inr ⟨i, v, hv, hk⟩ : MatB q vs k))).trans hs (fun k _ e => (.inl e : MatB q vs k))
  · rcases hg with rfl | ⟨j, u, hu, hg⟩
    · exact .inl (.inl rfl)
    · by_cases e : i = j
      · subst e
        rw [List.getElem?_set_self hi] at hu
        cases hu
        rcases hb with hb | ⟨g', hb, h3⟩
        · exact .inl (.inr ⟨i, v, hv, by rw [← hb]; exact hg⟩)
        · rw [hb] at hg; injection hg with hg; exact .inr (by omega)
      · rw [List.getElem?_set_ne e] at hu
        exact .inl (.inr ⟨j, u, hu, hg⟩)
/-- A new block, all of its rows empty. -/
theorem Mat.new {n : Nat} (h : w.heap[q]? = some (.cells (List.replicate n (Value.slice none 0 0)).toArray 31 (0, 0))) (hb : base ≤ q) : Mat w base q (List.replicate n (.slice none 0 0)) (List.replicate n []) := by
  have hn : ∀ (i : Nat) v, (List.replicate n (Value.slice none 0 0))[i]? = some v → v = .slice none 0 0 := fun i v hv => by
    rw [List.getElem?_replicate] at hv
    split at hv
    · injection hv with hv; exact hv.symm
    · cases hv
  refine ⟨h, by simp, hb, fun i v l hv hl => ?_, fun i j v u g hv _ hg _ => ?_⟩
  · obtain rfl := hn i v hv
    rw [List.getElem?_replicate] at hl
    split at hl
    · injection hl with hl; subst hl; exact RowAt.nil _ _ _
    · cases hl
  · obtain rfl := hn i v hv
    cases hg
theorem matB_new {n q g : Nat} (h : MatB q (List.replicate n (.slice none 0 0)) g) : g = q := by
  rcases h with h | ⟨i, v, hv, hg⟩
  · exact h
  · rw [List.getElem?_replicate] at hv
    split at hv
    · injection hv with hv; subst hv; cases hg
    · cases hv
end
/-- Two blocks of rows, apart: a graph in memory. -/
structure Gr (w : World) (base : Nat) (gv : Value) (b a : List (List Nat)) (S : Nat → Prop) : Prop where
  ex : ∃ q p vs us, gv = .agg #[.slice (some ⟨q, 0, none⟩) b.length b.length, .slice (some ⟨p, 0, none⟩) b.length b.length] ∧ Mat w base q vs b ∧ Mat w base p us a ∧ a.length = b.length ∧ (∀ g, MatB q vs g → ¬ MatB p us g) ∧ (∀ g, S g ↔ MatB q vs g ∨ MatB p us g)
theorem Gr.only {w w' : World} {base : Nat} {gv : Value} {b a : List (List Nat)} {S T : Nat → Prop} (h : Gr w base gv b a S) (ho : Only T w w') (hn : ∀ g, S g → ¬ T g) : Gr w' base gv b a S := by
  obtain ⟨q, p, vs, us, e, h1, h2, h3, h4, h5⟩ := h.ex
  exact ⟨q, p, vs, us, e, h1.only ho (fun g hg => hn g ((h5 g).2 (.inl hg))), h2.only ho (fun g hg => hn g ((h5 g).2 (.inr hg))), h3, h4, h5⟩
theorem Gr.lt {w : World} {base : Nat} {gv : Value} {b a : List (List Nat)} {S : Nat → Prop} (h : Gr w base gv b a S) {g : Nat} (hg : S g) : g < w.heap.size ∧ base ≤ g := by
  obtain ⟨q, p, vs, us, e, h1, h2, h3, h4, h5⟩ := h.ex
  rcases (h5 g).1 hg with hg | hg
  · exact h1.lt hg
  · exact h2.lt hg
theorem Gr.later {w w' : World} {base : Nat} {gv : Value} {b a : List (List Nat)} {S : Nat → Prop} (h : Gr w base gv b a S) (hb : Below w.heap.size w w') : Gr w' base gv b a S := h.only (Only.of_below hb) (fun g hg e => by have := (h.lt hg).1; omega)
end Go.Proofs.Ytnkbbjeepdjamaa
/- A region that draws its order, whose one late operation (number z) writes what others read: the loads are taken first under a condition S that holds till z has come up. Condition: z waits for whatever is taken first. -/
namespace Go.Proofs.Ytnkbbjeepdjamaa
section
variable {P : Program} {ops : Array Oper} {Q : Exit → Act → World → Prop} {md : Region.Mode} {S : World → Prop} {z : Nat}

/-- Whatever order is picked from here on; S holds behind each operation, as long as z has not come up. -/
def wpAnyZ (P : Program) (md : Region.Mode) (ops : Array Oper) (Q : Exit → Act → World → Prop) (S : World → Prop) (z : Nat) : Nat → Array Bool → Act → World → Prop
  | 0, listed, a, w => Region.ready md ops listed = [] ∧ Q .normal a w
  | fuel + 1, listed, a, w =>
    (Region.ready md ops listed = [] → Q .normal a w) ∧
    ∀ i ∈ Region.ready md ops listed, wpOp P ops Q i (fun a' w' => (i ≠ z → S w') ∧ wpAnyZ P md ops Q S z fuel (listed.setIfInBounds i true) a' w') a w
theorem wpAny_of_Z : ∀ (fuel : Nat) (listed : Array Bool) (a : Act) (w : World), wpAnyZ P md ops Q S z fuel listed a w → wpAny P md ops Q fuel listed a w
  | 0, _, _, _, h => h
  | fuel + 1, _, _, _, h => ⟨h.1, fun i hi => wpOp_mono (fun a' w' h' => wpAny_of_Z fuel _ a' w' h'.2) (h.2 i hi)⟩
/-- Does z wait for i? -/
def waitsB (md : Region.Mode) (ops : Array Oper) (z i : Nat) : Bool := match ops[z]? with
  | some o => o.after.any fun e => Region.binds md e && e.on == i
  | none => false
theorem waitsB_spec {i : Nat} {listed : Array Bool} (h : waitsB md ops z i = true) (hi : listed.getD i true = false) : z ∉ Region.ready md ops listed := by
  intro hz
  obtain ⟨_, o, ho, hall⟩ := mem_ready.1 hz
  unfold waitsB at h
  rw [ho] at h
  simp only [Array.any_eq_true, Bool.and_eq_true, beq_iff_eq] at h
  obtain ⟨k, hk, hb, he⟩ := h
  have h1 := hall _ (Array.getElem_mem hk) hb
  rw [he] at h1
  rcases Nat.lt_or_ge i listed.size with h' | h'
  · simp [h'] at hi h1; rw [hi] at h1; cases h1
  · simp [Array.getElem?_eq_none h'] at h1
theorem wpAnyZ_first {i : Nat} {oi : Oper} {v : Value} (hi : ops[i]? = some oi) (hsel : ∀ (j : Nat) (o : Oper) cs b, ops[j]? = some o → o.op ≠ .select cs b)
    (hQ : ∀ c a w, Q (.panic c) (a.put oi.dst v) w → Q (.panic c) a w) (hz : waitsB md ops z i = true) :
    ∀ (fuel : Nat) (listed : Array Bool) (a : Act) (w : World),
      (∀ j oj, ops[j]? = some oj → j ≠ i → listed.getD j true = false → (∀ e ∈ oj.after, Region.binds md e = true → e.on ≠ i) → oi.apart ops oj = true) →
      i ∈ Region.ready md ops listed → YieldsIf P ops S oi v a → S w →
      wpAnyZ P md ops Q S z fuel (listed.setIfInBounds i true) (a.put oi.dst v) w → wpAnyZ P md ops Q S z (fuel + 1) listed a w := by
  intro fuel
  induction fuel with
  | zero =>
    intro listed a w _ hr hy hS H
    refine ⟨fun h => (by rw [h] at hr; cases hr), fun j hj => ?_⟩
    by_cases hji : j = i
    · subst hji; exact hy.wpOp hi hS ⟨fun _ => hS, H⟩
    · have := ready_mono hj hji
      rw [H.1] at this; cases this
  | succ fuel ih =>
    intro listed a w hfree hr hy hS H
    have hiun := (mem_ready.1 hr).1
    refine ⟨fun h => (by rw [h] at hr; cases hr), fun j hj => ?_⟩
    by_cases hji : j = i
    · subst hji; exact hy.wpOp hi hS ⟨fun _ => hS, H⟩
    · have hjz : j ≠ z := fun e => waitsB_spec hz hiun (e ▸ hj)
      obtain ⟨hjun, oj, hoj, hall⟩ := mem_ready.1 hj
      have hnot : ∀ e ∈ oj.after, Region.binds md e = true → e.on ≠ i := fun e he hb heq => by
        have h1 := hall e he hb
        rw [heq] at h1
        rcases Nat.lt_or_ge i listed.size with h' | h'
        · simp [h'] at hiun h1; rw [hiun] at h1; cases h1
        · simp [Array.getElem?_eq_none h'] at h1
      have h2 := wpOp_putIf hoj (hfree j oj hoj hji hjun hnot) (fun cs b => hsel i oi cs b hi) (fun cs b => hsel j oj cs b hoj) hQ hy (H.2 j (ready_mono hj hji))
      refine wpOp_mono (fun a' w' h3 => ⟨h3.2.1, ih (listed.setIfInBounds j true) a' w' (fun k ok hk hki hun hno => ?_) (ready_mono hr (Ne.symm hji)) h3.1 (h3.2.1 hjz) ?_⟩) h2
      · refine hfree k ok hk hki ?_ hno
        by_cases hjk : j = k
        · subst hjk; exact hjun
        · rw [getD_set_ne true hjk] at hun; exact hun
      · rw [Array.setIfInBounds_comm _ _ hji]; exact h3.2.2
theorem wpAnyZ_take {i : Nat} {oi : Oper} {v : Value} {fuel : Nat} {listed : Array Bool} {a : Act} {w : World} (hi : ops[i]? = some oi)
    (hs : Region.noSelect ops = true) (hf : Region.free md ops listed i = true) (hr : (Region.ready md ops listed).contains i = true) (hz : waitsB md ops z i = true)
    (hQ : ∀ c a w, Q (.panic c) (a.put oi.dst v) w → Q (.panic c) a w) (hy : YieldsIf P ops S oi v a) (hS : S w)
    (h : wpAnyZ P md ops Q S z fuel (listed.setIfInBounds i true) (a.put oi.dst v) w) : wpAnyZ P md ops Q S z (fuel + 1) listed a w :=
  wpAnyZ_first hi (Region.noSelect_spec hs) hQ hz fuel listed a w (Region.free_spec hi hf) (by simpa using hr) hy hS h
/-- One operation alone may come up: it is carried out; behind it S is shown anew, but behind z. -/
theorem wpAnyZ_step {i : Nat} {o : Oper} {fuel : Nat} {listed : Array Bool} {a : Act} {w : World} (ho : ops[i]? = some o) (hr : Region.ready md ops listed = [i])
    (h : ∀ K' : Act → World → Prop, Shut (∀ a w, (i ≠ z → S w) → ((i ≠ z → S w) → wpAnyZ P md ops Q S z fuel (listed.setIfInBounds i true) a w) → K' a w) → if Region.wanted o (yielded ops a.tmps) = true then Oper.wp P o a w K' Q else K' (a.put o.dst undef) w) :
    wpAnyZ P md ops Q S z (fuel + 1) listed a w := by
  refine ⟨fun h0 => (by rw [hr] at h0; cases h0), fun j hj => ?_⟩
  rw [hr] at hj
  obtain rfl : j = i := by simpa using hj
  exact wpOp_step ho (fun K' hK => h K' (fun a w hS hW => hK a w ⟨hS, hW hS⟩))
theorem wpAnyZ_done {listed : Array Bool} {a : Act} {w : World} (hr : Region.ready md ops listed = []) (h : Q .normal a w) : ∀ fuel, wpAnyZ P md ops Q S z fuel listed a w
  | 0 => ⟨hr, h⟩
  | _ + 1 => ⟨fun _ => h, by rw [hr]; simp⟩
theorem wp_region_Z {id : Nat} {a : Act} {w : World} (hm : P.follows .mixedOrders = true) (hS : S w.drew)
    (h : S w.drew → wpAnyZ P .any ops Q S z ops.size (Array.replicate ops.size false) a w.drew) : (Code.region id ops true).wp P Q a w :=
  wp_region_any hm (wpAny_of_Z _ _ _ _ (h hS))
end
end Go.Proofs.Ytnkbbjeepdjamaa
/- slices.Contains at int: whether an item is among the cells. Condition: the row lies where it is told. -/
namespace Go.Proofs.Ytnkbbjeepdjamaa
open Go.RowKit
namespace QI
theorem index (A : Option Addr) (c : Nat) (l : List Int) (x : Int) (w : World) (hA : ∀ (i : Nat) (hi : i < l.length), ∃ g o, A = some ⟨g, o, none⟩ ∧ w.cell? ⟨g, o + i, none⟩ = some (.int .i64 l[i])) (hlc : l.length ≤ c) (hc : c ≤ maxLen) :
    Calls Try.prog 72 #[.slice A l.length c, .int .i64 x] w fun e w' => ∃ z : Int, e = .returned (.int .i64 z) ∧ (decide (0 ≤ z)) = (decide (x ∈ l)) ∧ w = w' := by
  have HA := Lib.hid hA; clear hA
  have hm : l.length ≤ maxLen := by omega
  simp only [maxLen] at hm hc
  go_enter Try.func72, Try.ntmps72
  go_wp2
  obtain ⟨w0, rfl⟩ : ∃ w0 : World, w0 = w := ⟨_, rfl⟩
  go_loopw [8] (fun i wr => ∃ k : Nat, k ≤ l.length ∧ i = .int .i64 k ∧ (∀ j (hj : j < l.length), j < k → l[j] ≠ x) ∧ wr = w0) (fun i _ => l.length - (intOf i).toNat)
  case atStart => exact ⟨0, by omega, rfl, fun j _ h => by omega, rfl⟩
  case round =>
    obtain ⟨k, hk, rfl, hI, rfl⟩ := hrel
    have HI := Lib.hid hI; clear hI
    by_cases hlt : k < l.length
    · obtain ⟨g, o, rfl, hcell⟩ := HA.out k hlt
      by_cases hx : l[k] = x
      · have hxe : (x == l[k]) = true := by simp [hx]
        have hmem : x ∈ l := hx ▸ List.getElem_mem hlt
        have HM := Lib.hid hmem
        clear hmem hx
        generalize l[k] = y at *
        go_wp2
        all_goals go_ret
        all_goals exact ⟨k, rfl, by simp [HM.out], rfl⟩
      · have hxe : (x == l[k]) = false := by simp; exact fun e => hx e.symm
        have HN : Hid (∀ j (hj : j < l.length), j < k + 1 → l[j] ≠ x) := by
          intro j hj hjk
          rcases (by omega : j < k ∨ j = k) with h | rfl
          · exact HI.out j hj h
          · exact hx
        clear hx
        generalize l[k] = y at *
        go_wp2
        go_roundw
        case rel => exact ⟨k + 1, by omega, by go_num, HN.out, by trivial⟩
        case measure => simp [intOf]; omega
    · obtain rfl : k = l.length := by omega
      have HN : Hid (x ∉ l) := by
        intro h
        obtain ⟨j, hj, e⟩ := List.getElem_of_mem h
        exact HI.out j hj hj e
      go_wp2
      go_ret
      exact ⟨-1, rfl, by simp [HN.out], rfl⟩
theorem contains_at (A : Option Addr) (c : Nat) (l : List Int) (x : Int) (w : World) (hA : ∀ (i : Nat) (hi : i < l.length), ∃ g o, A = some ⟨g, o, none⟩ ∧ w.cell? ⟨g, o + i, none⟩ = some (.int .i64 l[i])) (hlc : l.length ≤ c) (hc : c ≤ maxLen) :
    Calls Try.prog 48 #[.slice A l.length c, .int .i64 x] w fun e w' => e = .returned (.bool (decide (x ∈ l))) ∧ w = w' := by
  have h1 := index A c l x w hA hlc hc
  have H1 := Lib.hid h1
  clear h1 hA hlc hc
  go_enter Try.func48, Try.ntmps48
  go_wp2_with fail
  refine H1.out.mono ?_
  rintro e w' ⟨z, rfl, hz, rfl⟩
  have HZ := Lib.hid hz
  clear H1 hz
  go_wp2
  all_goals go_ret
  all_goals exact ⟨by rw [← HZ.out]; rfl, rfl⟩
theorem contains {w : World} {base : Nat} {v : Value} {l : List Int} (x : Int) (h : RowAt w base 3 v (l.map (Value.int .i64))) :
    Calls Try.prog 48 #[v, .int .i64 x] w fun e w' => e = .returned (.bool (decide (x ∈ l))) ∧ w = w' := by
  rcases h with ⟨rfl, h⟩ | ⟨g, o, cap, cur, rfl, _, hh, hl, hm, _, hx⟩
  · obtain rfl : l = [] := by simpa using h
    exact contains_at none 0 [] x w (fun i hi => by simp at hi) (by simp) (by simp [maxLen])
  · rw [List.length_map] at hl ⊢
    refine contains_at _ cap l x w (fun i hi => ⟨g, o, rfl, ?_⟩) hl hm
    rw [cell_of_blk _ _ _ _ _ hh]
    exact hx i _ (by simp [List.getElem?_eq_getElem hi])
end QI
end Go.Proofs.Ytnkbbjeepdjamaa
/- graph.New, Len, Behind, Ahead; slices.Clone of a row. Conditions: few places. -/
namespace Go.Proofs.Ytnkbbjeepdjamaa
open Go.RowKit
theorem append_read {P : Program} {w : World} {base : Nat} (t ty e : TypeId) (i : TypeInfo) (z : Value) (bytes : Nat) (ht : P.underlying t = some (.slice e)) (hi : P.info? e = some i) (hz : i.zero = some z) (hsize : i.size = 1) (hby : i.bytes = bytes) (hzs : z.cells.size = 1)
    {v : Value} {n : Nat} {xs : List Value} (h : w.ownsRow base e 1 v n xs) (A : Option Addr) (c : Nat) (news : List Value) (hA : 0 < news.length → ∃ ad, A = some ad ∧ ∀ j u, news[j]? = some u → w.cell? (ad.add j) = some u) (h1 : ∀ u ∈ news, u.oneCell' = true)
    (hb : base ≤ w.heap.size) (h63 : n + news.length ≤ maxLen) (hbytes : (n + news.length) * bytes ≤ 140737488355328) :
    ∃ v' w', (Builtin.append_ #[t, t] ty #[v, .slice A news.length c]).run P w = .ok v' w' ∧ w'.ownsRow base e 1 v' (n + news.length) (xs ++ news) ∧ w.grownBy w' v.ownBlock := by
  cases A with
  | none =>
    have hn : news = [] := by
      cases news with
      | nil => rfl
      | cons u r => obtain ⟨ad, e, _⟩ := hA (by simp); cases e
    subst hn
    refine ⟨v, w, ?_, by simpa using h, World.grownBy.refl _ _⟩
    rcases h.2 with ⟨rfl, rfl⟩ | ⟨g, cap, cur, rfl, _, _, hnc, _⟩
    · simp [Builtin.append_, run_underlying ht, sizeOf, typeInfo, hi, Builtin.lenOf, Builtin.firstCells]
    · simp [Builtin.append_, run_underlying ht, sizeOf, typeInfo, hi, Builtin.lenOf, Builtin.firstCells, hnc, storeCells]
  | some ad =>
    obtain ⟨v', w', hr, r1, r2, _⟩ := run_append_own (P := P) w base t ty e i z 1 bytes ht hi hz hsize hby hzs (by omega) v n xs h ad news.length c news (by simp) (fun j u hj => by
      obtain ⟨ad', e, hc⟩ := hA (by have := (List.getElem?_eq_some_iff.1 hj).1; omega)
      cases e
      exact hc j u hj) h1 h63 hbytes hb
    exact ⟨v', w', hr, r1, r2⟩
theorem rowAt_read {w : World} {base : Nat} {e : TypeId} {A : Option Addr} {n c : Nat} {vs : List Value} (h : RowAt w base e (.slice A n c) vs) : n = vs.length ∧ (0 < vs.length → ∃ ad, A = some ad ∧ ∀ j u, vs[j]? = some u → w.cell? (ad.add j) = some u) := by
  have h' := h
  rcases h with ⟨hv, rfl⟩ | ⟨g, o, cap, cur, hv, _⟩
  · injection hv with h1 h2 h3
    exact ⟨by simpa using h2, fun hn => absurd hn (by simp)⟩
  · injection hv with h1 h2 h3
    subst h1
    exact ⟨h2, fun _ => ⟨_, rfl, fun j u hj => by rw [Addr.add_lit]; exact h'.cell j u hj⟩⟩
theorem rowAt_slice {w : World} {base : Nat} {e : TypeId} {v : Value} {vs : List Value} (h : RowAt w base e v vs) : ∃ A c, v = .slice A vs.length c ∧ vs.length ≤ c ∧ c ≤ maxLen ∧ (A = none → vs.length = 0 ∧ c = 0) := by
  rcases h with ⟨rfl, rfl⟩ | ⟨g, o, cap, cur, rfl, _, _, h1, h2, _⟩
  · exact ⟨none, 0, rfl, Nat.le_refl _, by simp [maxLen], fun _ => ⟨rfl, rfl⟩⟩
  · exact ⟨_, cap, rfl, h1, h2, fun h => by cases h⟩
theorem eq_nilI : ∀ w : World, (binOp .eql 31 (.slice none 0 0) (.slice none 0 0)).run Try.prog w = .ok (.bool true) w := fun w => by kernel_rfl
theorem cloneG_nil (w : World) : Calls Try.prog 56 #[.slice none 0 0] w fun e w' => e = .returned (.slice none 0 0) ∧ w = w' := by
  have e1 := eq_nilI
  go_enter Try.func56, Try.ntmps56
  go_wp2
  go_ret
  exact ⟨rfl, rfl⟩
/-- A copy of a row. -/
theorem cloneG {w : World} {base : Nat} {v : Value} {l : List Nat} (h : RowAt w base 3 v (l.map iv)) (hn : l.length ≤ 1048576) :
    Calls Try.prog 56 #[v] w fun e w' => ∃ v', e = .returned v' ∧ w'.ownsRow w.heap.size 3 1 v' l.length (l.map iv) ∧ Below w.heap.size w w' := by
  obtain ⟨A, c, rfl, hlc, hcm, hA⟩ := rowAt_slice h
  cases A with
  | none =>
    obtain ⟨h1, rfl⟩ := hA rfl
    obtain rfl : l = [] := by simpa using h1
    refine (cloneG_nil w).mono ?_
    rintro e w' ⟨rfl, rfl⟩
    exact ⟨_, rfl, World.ownsRow_nil _ _ _ _, Below.refl _ _⟩
  | some ad =>
    have hne := Lib.run_eql_slice_nil (P := Try.prog)
    have hown : (w.alloc (.cells #[] 3)).ownsRow w.heap.size 3 1 (.slice (some ⟨w.heap.size, 0, none⟩) 0 0) 0 [] := ⟨rfl, .inr ⟨w.heap.size, 0, #[], rfl, Nat.le_refl _, Array.getElem?_push_size, Nat.le_refl _, by decide, rfl, rfl⟩⟩
    obtain ⟨i0, hi0, hz0, hz1, hz2⟩ := info_parts infoI
    have hl := hlc
    rw [List.length_map] at hl
    have hr1 := (h.only (Only.alloc (fun _ => False) w (.cells #[] 3)) (fun _ _ e => e))
    obtain ⟨v', w', hr, r1, r2⟩ := append_read (P := Try.prog) 31 31 3 i0 (.int .i64 0) 8 Try.underlying31 hi0 hz0 hz1 hz2 rfl hown (some ad) c (l.map iv) (rowAt_read hr1).2 (one_iv l) (by simp) (by unfold maxLen; simp; omega) (by simp; omega)
    simp only [List.length_map, Nat.zero_add, List.nil_append] at hr r1 ⊢
    have hb : Below w.heap.size w w' := ((Only.alloc (fun k => k = w.heap.size) w _).trans (Only.grown r2) (fun x hx e => by simp [Value.ownBlock] at e; exact e.symm)).below (Nat.le_refl _) (fun k hk e => by omega)
    have HR := Lib.hid hr
    have H := Lib.hid (And.intro r1 hb)
    clear hr r1 r2 hb hi0 hz0 hz1 hz2 hown hlc hcm hA hr1 h hl
    go_enter Try.func56, Try.ntmps56
    go_wp2_with (first | (at_builtin; refine Lib.wpList_append_run _ rfl _ _ _ _ rfl _ _ rfl rfl _ _ HR.out ?_) | fail)
    go_ret
    exact ⟨_, rfl, H.out.1, H.out.2⟩
/-- How many places. -/
theorem len_calls (q n p m : Nat) (x y : Nat) (w : World) : Calls Try.prog 28 #[.agg #[.slice (some ⟨q, 0, none⟩) n x, .slice (some ⟨p, 0, none⟩) m y]] w fun e w' => e = .returned (.int .i64 n) ∧ Below w.heap.size w w' := by
  go_enter Try.func28, Try.ntmps28
  go_wp2
  go_ret
  exact ⟨rfl, (Below.refl _ _).alloc (Nat.le_refl _) _⟩
end Go.Proofs.Ytnkbbjeepdjamaa
/- graph.Behind, Ahead, New. Conditions: few places. -/
namespace Go.Proofs.Ytnkbbjeepdjamaa
open Go.RowKit
theorem boxed {w w1 : World} {q : Nat} {o : Obj} (h : w.alloc o = w1) (hq : w.heap.size = q) : w1.heap[q]? = some o ∧ Below w.heap.size w w1 ∧ w1.heap.size = q + 1 := by
  subst h; subst hq
  exact ⟨Array.getElem?_push_size, (Below.refl _ _).alloc (Nat.le_refl _) _, by simp⟩
theorem below_two {a b c : World} (h : Below a.heap.size a b) (k : Below b.heap.size b c) : Below a.heap.size a c := h.trans (k.mono h.size)
theorem behind_in {w : World} {base : Nat} {gv : Value} {b a : List (List Nat)} {S : Nat → Prop} (h : Gr w base gv b a S) (i : Nat) (l : List Nat) (hl : b[i]? = some l) (hn : l.length ≤ 1048576) :
    Calls Try.prog 74 #[gv, .int .i64 i] w fun e w' => ∃ v', e = .returned v' ∧ w'.ownsRow w.heap.size 3 1 v' l.length (l.map iv) ∧ Below w.heap.size w w' := by
  obtain ⟨q, p, vs, us, rfl, h1, h2, h3, h4, h5⟩ := h.ex
  have hi : i < b.length := by have := (List.getElem?_eq_some_iff.1 hl).1; omega
  obtain ⟨v, l', hv, hl', hr⟩ := h1.get (i := i) (by omega)
  obtain rfl : l = l' := Option.some.inj (hl.symm.trans hl')
  have H := Lib.hid (And.intro h1 (And.intro hv (And.intro hr hn)))
  clear h1 h2 h3 h4 h5 h hl hl' hv hr hn
  generalize b.length = n at *
  have i0 : 0 ≤ (i : Int) := by omega
  have i1 : (i : Int) < (n : Int) := by omega
  go_enter Try.func74, Try.ntmps74
  go_wp2_with fail
  refine (len_calls q n p n n n _).mono ?_
  rintro e w2 ⟨rfl, hb⟩
  generalize hX : World.alloc w _ = X at *
  obtain ⟨hx, hbx, hz⟩ := boxed hX rfl
  have hm2 := (H.out.1.later hbx).later hb
  have hc := hm2.cell i
  rw [H.out.2.1] at hc
  have x0 := (cell_of_blk _ _ _ _ _ ((hb.block _ (by omega)).trans hx) 0)
  have HR := Lib.hid (And.intro (((H.out.2.2.1).only (Only.of_below hbx) (fun g hg e => by have := (H.out.2.2.1.lt hg).1; omega))) (And.intro hbx hb))
  simp at x0
  have c1 := HR.out.1
  clear hX hx hz hbx hb c1
  go_wp2_with fail
  have r2 : RowAt w2 base 3 v (l.map iv) := HR.out.1.only (Only.of_below HR.out.2.2) (fun g hg e => by have := (HR.out.1.lt hg).1; omega)
  refine (cloneG r2 H.out.2.2.2).mono ?_
  rintro e w3 ⟨v', rfl, ho, hb3⟩
  have hbel := below_two (below_two HR.out.2.1 HR.out.2.2) hb3
  have HO := Lib.hid (own_base ho (below_two HR.out.2.1 HR.out.2.2).size)
  clear ho hb3 x0 hc hm2
  go_wp2_with fail
  go_ret
  exact ⟨v', rfl, HO.out, hbel⟩
theorem behind_out {w : World} {base : Nat} {gv : Value} {b a : List (List Nat)} {S : Nat → Prop} (h : Gr w base gv b a S) (i : Int) (hi : i < 0 ∨ (b.length : Int) ≤ i) :
    Calls Try.prog 74 #[gv, .int .i64 i] w fun e w' => e = .returned (.slice none 0 0) ∧ Below w.heap.size w w' := by
  obtain ⟨q, p, vs, us, rfl, _⟩ := h.ex
  clear h
  generalize b.length = n at *
  by_cases h0 : i < 0
  · clear hi
    go_enter Try.func74, Try.ntmps74
    go_wp2_with fail
    go_ret
    exact ⟨rfl, (Below.refl _ _).alloc (Nat.le_refl _) _⟩
  · have h1 : (n : Int) ≤ i := by omega
    have h0' : 0 ≤ i := by omega
    clear hi h0
    go_enter Try.func74, Try.ntmps74
    go_wp2_with fail
    refine (len_calls q n p n n n _).mono ?_
    rintro e w2 ⟨rfl, hb⟩
    have hbel := below_two ((Below.refl _ _).alloc (Nat.le_refl _) _) hb
    clear hb
    go_wp2_with fail
    go_ret
    exact ⟨rfl, hbel⟩
theorem ahead_in {w : World} {base : Nat} {gv : Value} {b a : List (List Nat)} {S : Nat → Prop} (h : Gr w base gv b a S) (i : Nat) (l : List Nat) (hl : a[i]? = some l) (hn : l.length ≤ 1048576) :
    Calls Try.prog 52 #[gv, .int .i64 i] w fun e w' => ∃ v', e = .returned v' ∧ w'.ownsRow w.heap.size 3 1 v' l.length (l.map iv) ∧ Below w.heap.size w w' := by
  obtain ⟨q, p, vs, us, rfl, h1, h2, h3, h4, h5⟩ := h.ex
  have hi : i < b.length := by have := (List.getElem?_eq_some_iff.1 hl).1; omega
  obtain ⟨v, l', hv, hl', hr⟩ := h2.get (i := i) (by omega)
  obtain rfl : l = l' := Option.some.inj (hl.symm.trans hl')
  have H := Lib.hid (And.intro h2 (And.intro hv (And.intro hr hn)))
  clear h1 h2 h3 h4 h5 h hl hl' hv hr hn
  generalize b.length = n at *
  have i0 : 0 ≤ (i : Int) := by omega
  have i1 : (i : Int) < (n : Int) := by omega
  go_enter Try.func52, Try.ntmps52
  go_wp2_with fail
  refine (len_calls q n p n n n _).mono ?_
  rintro e w2 ⟨rfl, hb⟩
  generalize hX : World.alloc w _ = X at *
  obtain ⟨hx, hbx, hz⟩ := boxed hX rfl
  have hm2 := (H.out.1.later hbx).later hb
  have hc := hm2.cell i
  rw [H.out.2.1] at hc
  have x0 := (cell_of_blk _ _ _ _ _ ((hb.block _ (by omega)).trans hx) 1)
  have HR := Lib.hid (And.intro (((H.out.2.2.1).only (Only.of_below hbx) (fun g hg e => by have := (H.out.2.2.1.lt hg).1; omega))) (And.intro hbx hb))
  simp at x0
  have c1 := HR.out.1
  clear hX hx hz hbx hb c1
  go_wp2_with fail
  have r2 : RowAt w2 base 3 v (l.map iv) := HR.out.1.only (Only.of_below HR.out.2.2) (fun g hg e => by have := (HR.out.1.lt hg).1; omega)
  refine (cloneG r2 H.out.2.2.2).mono ?_
  rintro e w3 ⟨v', rfl, ho, hb3⟩
  have hbel := below_two (below_two HR.out.2.1 HR.out.2.2) hb3
  have HO := Lib.hid (own_base ho (below_two HR.out.2.1 HR.out.2.2).size)
  clear ho hb3 x0 hc hm2
  go_wp2_with fail
  go_ret
  exact ⟨v', rfl, HO.out, hbel⟩
theorem ahead_out {w : World} {base : Nat} {gv : Value} {b a : List (List Nat)} {S : Nat → Prop} (h : Gr w base gv b a S) (i : Int) (hi : i < 0 ∨ (b.length : Int) ≤ i) :
    Calls Try.prog 52 #[gv, .int .i64 i] w fun e w' => e = .returned (.slice none 0 0) ∧ Below w.heap.size w w' := by
  obtain ⟨q, p, vs, us, rfl, _⟩ := h.ex
  clear h
  generalize b.length = n at *
  by_cases h0 : i < 0
  · clear hi
    go_enter Try.func52, Try.ntmps52
    go_wp2_with fail
    go_ret
    exact ⟨rfl, (Below.refl _ _).alloc (Nat.le_refl _) _⟩
  · have h1 : (n : Int) ≤ i := by omega
    have h0' : 0 ≤ i := by omega
    clear hi h0
    go_enter Try.func52, Try.ntmps52
    go_wp2_with fail
    refine (len_calls q n p n n n _).mono ?_
    rintro e w2 ⟨rfl, hb⟩
    have hbel := below_two ((Below.refl _ _).alloc (Nat.le_refl _) _) hb
    clear hb
    go_wp2_with fail
    go_ret
    exact ⟨rfl, hbel⟩

end Go.Proofs.Ytnkbbjeepdjamaa
