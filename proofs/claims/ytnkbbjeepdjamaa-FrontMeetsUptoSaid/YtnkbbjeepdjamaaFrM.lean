/- A row of sets in memory. No condition. -/
import Derived.Test.YtnkbbjeepdjamaaM4
import Derived.Test.YtnkbbjeepdjamaaGNew
import Derived.Laws.MakeOwn
namespace Go.Proofs.Ytnkbbjeepdjamaa
open Go.RowKit
theorem infoBS : (Try.prog.info? 57).map (fun i => (i.zero, i.size, i.bytes)) = some (some (.agg #[.slice none 0 0]), 1, 24) := by kernel_rfl
def nilSets (n : Nat) : Obj := .cells (List.replicate n (.slice none 0 0)).toArray 57
theorem mk_sets (n : Nat) (hn : n ≤ 1048576) (w : World) : (Instr.makeSlice 54 (.int .i64 (n : Int)) (.int .i64 (n : Int))).run Try.prog w = .ok (.slice (some ⟨w.heap.size, 0, none⟩) n n) (w.alloc (nilSets n)) := by
  obtain ⟨i0, hi0, hz0, hz1, hz2⟩ := info_parts infoBS
  have h := run_make (P := Try.prog) w 54 57 i0 _ Try.underlying54 hi0 hz0 .i64 .i64 n n (by omega) (Int.le_refl _) (by rw [hz2]; omega) (by omega)
  rw [h, hz1, Int.toNat_natCast, Nat.mul_one]
  unfold nilSets
  have e : (madeCells (Value.cells (.agg #[.slice none 0 0])) n) = (List.replicate n (Value.slice none 0 0)).toArray := by
    apply Array.toList_inj.1
    rw [show Value.cells (.agg #[.slice none 0 0]) = #[.slice none 0 0] from rfl, toList_madeCells_one]
  rw [e]
theorem len_range : ∀ (l : List Nat) (n : Nat), l.Nodup → (∀ x ∈ l, x < n) → l.length ≤ n
  | l, 0, _, h => by
    cases l with
    | nil => simp
    | cons a l => exact absurd (h a (by simp)) (by omega)
  | l, n + 1, hn, h => by
    have h1 := len_range (l.erase n) n (hn.erase n) (fun x hx => by
      have h2 := h x (List.mem_of_mem_erase hx)
      have h3 : x ≠ n := fun e => by subst e; exact (List.Nodup.mem_erase_iff hn).1 hx |>.1 rfl
      omega)
    by_cases hm : n ∈ l
    · rw [List.length_erase_of_mem hm] at h1; omega
    · rw [List.erase_of_not_mem hm] at h1; omega
/-- Sets, one a place: r's has the numbers of which P r tells. -/
structure Bags (w : World) (base Q n N : Nat) (P : Nat → Nat → Prop) (S : Nat → Prop) : Prop where
  ex : ∃ vs : List Value, vs.length = n ∧ w.heap[Q]? = some (.cells vs.toArray 57 (0, 0)) ∧ base ≤ Q ∧
    (∀ r v, vs[r]? = some v → ∃ xs : List Int, IsSetI w base v xs ∧ (∀ x : Int, x ∈ xs ↔ ∃ y : Nat, x = (y : Int) ∧ P r y)) ∧
    (∀ (r r' : Nat) v v' g, vs[r]? = some v → vs[r']? = some v' → v.ownBlock = some g → v'.ownBlock = some g → r = r') ∧
    (∀ g, S g ↔ g = Q ∨ ∃ (r : Nat) (v : Value), vs[r]? = some v ∧ v.ownBlock = some g)
  few : ∀ r y, P r y → y < N
theorem isset_lt {w : World} {base : Nat} {v : Value} {xs : List Int} (h : IsSetI w base v xs) {g : Nat} (hg : v.ownBlock = some g) : base ≤ g ∧ g < w.heap.size :=
  let k := own_lt h.own hg
  ⟨k.2, k.1⟩
theorem set_len {xs : List Int} {N : Nat} (hs : Srt ltI xs) (h : ∀ x ∈ xs, ∃ y : Nat, x = (y : Int) ∧ y < N) : xs.length ≤ N := by
  have h1 := len_range (xs.map Int.toNat) N ?_ ?_
  · simpa using h1
  · have hn := srt_nodup ordI hs
    rw [List.nodup_iff_pairwise_ne] at hn ⊢
    rw [List.pairwise_map]
    refine List.Pairwise.imp_of_mem ?_ hn
    intro a b ha hb hab e
    obtain ⟨y, rfl, _⟩ := h a ha
    obtain ⟨z, rfl, _⟩ := h b hb
    have e2 : y = z := by simpa using e
    exact hab (by rw [e2])
  · intro x hx
    obtain ⟨a, ha, rfl⟩ := List.mem_map.1 hx
    obtain ⟨y, rfl, hy⟩ := h a ha
    simpa using hy
theorem isset_ne {w : World} {base p : Nat} {v : Value} {xs : List Int} {cs : Array Value} {t : TypeId} {f : Nat × Nat} (h : IsSetI w base v xs) (hp : w.heap[p]? = some (.cells cs t f)) (hne : 3 ≠ t) : v.ownBlock ≠ some p := (RowAt.of_own h.own).ne_blk hp hne
section
variable {w w' : World} {base Q n N : Nat} {P : Nat → Nat → Prop} {S : Nat → Prop}
theorem Bags.lt (h : Bags w base Q n N P S) {g : Nat} (hg : S g) : g < w.heap.size ∧ base ≤ g := by
  obtain ⟨vs, h1, h2, h3, h4, h5, h6⟩ := h.ex
  rcases (h6 g).1 hg with rfl | ⟨r, v, hr, hv⟩
  · exact ⟨lt_blk h2, h3⟩
  · obtain ⟨xs, hs, _⟩ := h4 r v hr
    have := isset_lt hs hv
    exact ⟨this.2, this.1⟩
theorem Bags.only {T : Nat → Prop} (h : Bags w base Q n N P S) (ho : Only T w w') (hn : ∀ g, S g → ¬ T g) : Bags w' base Q n N P S := by
  have hl := fun g => h.lt (g := g)
  obtain ⟨vs, h1, h2, h3, h4, h5, h6⟩ := h.ex
  refine ⟨⟨vs, h1, (ho.block Q (lt_blk h2) (hn Q ((h6 Q).2 (.inl rfl)))).trans h2, h3, fun r v hr => ?_, h5, h6⟩, h.few⟩
  obtain ⟨xs, hs, hx⟩ := h4 r v hr
  exact ⟨xs, hs.only ho (fun g hg => hn g ((h6 g).2 (.inr ⟨r, v, hr, hg⟩))), hx⟩
theorem Bags.later (h : Bags w base Q n N P S) (hb : Below w.heap.size w w') : Bags w' base Q n N P S :=
  h.only (Only.of_below hb) (fun g hg e => by have := (h.lt hg).1; omega)
theorem Bags.iff {P' : Nat → Nat → Prop} (h : Bags w base Q n N P S) (hp : ∀ r x, P r x ↔ P' r x) : Bags w base Q n N P' S := by
  have e : P = P' := funext fun r => funext fun x => propext (hp r x)
  rw [← e]; exact h
theorem Bags.new (w : World) (base n N : Nat) (hb : base ≤ w.heap.size) : Bags (w.alloc (nilSets n)) base w.heap.size n N (fun _ _ => False) (fun g => g = w.heap.size) := by
  refine ⟨⟨List.replicate n (.slice none 0 0), by simp, heap_alloc_new' w _, hb, fun r v hr => ?_, fun r r' v v' g hr _ hv _ => ?_, fun g => ⟨.inl, fun e => e.elim id fun ⟨r, v, hr, hv⟩ => ?_⟩⟩, fun _ _ h => h.elim⟩
  · obtain rfl : v = .slice none 0 0 := by
      rw [List.getElem?_replicate] at hr; split at hr <;> simp_all
    exact ⟨[], ⟨World.ownsRow_nil _ _ _ _, List.Pairwise.nil⟩, fun x => by simp⟩
  · obtain rfl : v = .slice none 0 0 := by
      rw [List.getElem?_replicate] at hr; split at hr <;> simp_all
    cases hv
  · obtain rfl : v = .slice none 0 0 := by
      rw [List.getElem?_replicate] at hr; split at hr <;> simp_all
    cases hv
/-- What one set of the row holds. -/
theorem Bags.get (h : Bags w base Q n N P S) {r : Nat} (hr : r < n) : ∃ (v : Value) (xs : List Int), w.cell? ⟨Q, r, none⟩ = some v ∧ IsSetI w base v xs ∧ xs.length ≤ N ∧ (∀ g, v.ownBlock = some g → S g) ∧ ∀ x : Int, x ∈ xs ↔ ∃ y : Nat, x = (y : Int) ∧ P r y := by
  obtain ⟨vs, h1, h2, h3, h4, h5, h6⟩ := h.ex
  obtain ⟨v, hv⟩ : ∃ v, vs[r]? = some v := ⟨_, List.getElem?_eq_getElem (by omega)⟩
  obtain ⟨xs, hs, hx⟩ := h4 r v hv
  refine ⟨v, xs, ?_, hs, set_len hs.srt (fun x hxm => ?_), fun g hg => (h6 g).2 (.inr ⟨r, v, hv, hg⟩), hx⟩
  · rw [cell_of_blk _ _ _ _ _ h2, List.getElem?_toArray]; exact hv
  · obtain ⟨y, rfl, hy⟩ := (hx x).1 hxm
    exact ⟨y, rfl, h.few r y hy⟩
/-- A number is put into one of the sets. -/
theorem Bags.add (h : Bags w base Q n N P S) {r x : Nat} (hr : r < n) (hx : x < N) (hN : N ≤ 1048575) :
    Calls Try.prog 38 #[.pointer (some ⟨Q, r, none⟩), .int .i64 (x : Int)] w fun e w' =>
      ∃ b S', e = .returned (.bool b) ∧ Bags w' base Q n N (fun r' y => P r' y ∨ (r' = r ∧ y = x)) S' ∧ Only S w w' ∧ ∀ g, S' g → S g ∨ w.heap.size ≤ g := by
  have hlt := fun g => h.lt (g := g)
  have hfew := h.few
  obtain ⟨vs, h1, h2, h3, h4, h5, h6⟩ := h.ex
  obtain ⟨v, hv⟩ : ∃ v, vs[r]? = some v := ⟨_, List.getElem?_eq_getElem (by omega)⟩
  obtain ⟨xs, hs, hxs⟩ := h4 r v hv
  have hlen : xs.length ≤ N := set_len hs.srt (fun y hy => by
    obtain ⟨z, rfl, hz⟩ := (hxs y).1 hy
    exact ⟨z, rfl, hfew r z hz⟩)
  refine (addI base Q r v xs (x : Int) w hs (by omega) vs.toArray 57 h2 (by rw [List.getElem?_toArray]; exact hv) (isset_ne hs h2 (by decide)) (by have := lt_blk h2; omega)).mono ?_
  rintro e w' ⟨v', rfl, k1, k2, k3⟩
  have hQ2 := k2.blk _ _ _ h2
  rw [List.setIfInBounds_toArray] at hQ2
  have hnew : ∀ g, v'.ownBlock = some g → v.ownBlock = some g ∨ w.heap.size ≤ g := fun g hg => by
    rcases k3 with e | ⟨g', e1, e2⟩
    · exact .inl (by rw [← e]; exact hg)
    · rw [hg] at e1; injection e1 with e1; exact .inr (by omega)
  have hold : ∀ (r' : Nat) u, (vs.set r v')[r']? = some u → r' ≠ r → vs[r']? = some u := fun r' u hu hne => by
    rwa [List.getElem?_set_ne (fun e => hne e.symm)] at hu
  have hat : ∀ u, (vs.set r v')[r]? = some u → u = v' := fun u hu => by
    rw [List.getElem?_set_self (by omega)] at hu; exact (Option.some.inj hu).symm
  have apart : ∀ (r' : Nat) u g, vs[r']? = some u → r' ≠ r → u.ownBlock = some g → v.ownBlock ≠ some g ∧ g ≠ Q ∧ g < w.heap.size := fun r' u g hu hne hg => by
    obtain ⟨ys, hys, _⟩ := h4 r' u hu
    exact ⟨fun e => hne (h5 r' r u v g hu hv hg e), fun e => isset_ne hys h2 (by decide) (e ▸ hg), (isset_lt hys hg).2⟩
  refine ⟨_, fun g => g = Q ∨ ∃ (r' : Nat) (u : Value), (vs.set r v')[r']? = some u ∧ u.ownBlock = some g, rfl, ⟨⟨vs.set r v', by simp [h1], hQ2, h3, fun r' u hu => ?_, fun r1 r2 u1 u2 g hu1 hu2 hg1 hg2 => ?_, fun _ => Iff.rfl⟩, fun r' y hy => ?_⟩, k2.only.mono (fun k _ e => ?_), fun g hg => ?_⟩
  · by_cases hne : r' = r
    · subst hne
      obtain rfl := hat u hu
      refine ⟨_, k1, fun y => ?_⟩
      rw [mem_ins, hxs]
      constructor
      · rintro (rfl | ⟨z, rfl, hz⟩)
        · exact ⟨x, rfl, .inr ⟨rfl, rfl⟩⟩
        · exact ⟨z, rfl, .inl hz⟩
      · rintro ⟨z, rfl, hz | ⟨_, rfl⟩⟩
        · exact .inr ⟨z, rfl, hz⟩
        · exact .inl rfl
    · have hu' := hold r' u hu hne
      obtain ⟨ys, hys, hym⟩ := h4 r' u hu'
      refine ⟨ys, hys.only k2.only (fun g hg e => ?_), fun y => ?_⟩
      · have := apart r' u g hu' hne hg
        exact e.elim this.2.1 this.1
      · rw [hym]
        exact ⟨fun ⟨z, e, hz⟩ => ⟨z, e, .inl hz⟩, fun ⟨z, e, hz⟩ => ⟨z, e, hz.resolve_right (fun k => hne k.1)⟩⟩
  · by_cases e1 : r1 = r
    · by_cases e2 : r2 = r
      · rw [e1, e2]
      · subst e1
        obtain rfl := hat u1 hu1
        have := apart r2 u2 g (hold r2 u2 hu2 e2) e2 hg2
        exact absurd (hnew g hg1) (fun k => k.elim this.1 (fun k => by omega))
    · have a1 := apart r1 u1 g (hold r1 u1 hu1 e1) e1 hg1
      by_cases e2 : r2 = r
      · subst e2
        obtain rfl := hat u2 hu2
        exact absurd (hnew g hg2) (fun k => k.elim a1.1 (fun k => by omega))
      · exact h5 r1 r2 u1 u2 g (hold r1 u1 hu1 e1) (hold r2 u2 hu2 e2) hg1 hg2
  · rcases hy with hy | ⟨_, rfl⟩
    · exact hfew r' y hy
    · exact hx
  · rcases e with e | e
    · exact (h6 k).2 (.inl e)
    · exact (h6 k).2 (.inr ⟨r, v, hv, e⟩)
  · rcases hg with rfl | ⟨r', u, hu, hg⟩
    · exact .inl ((h6 _).2 (.inl rfl))
    · by_cases hne : r' = r
      · subst hne
        obtain rfl := hat u hu
        exact (hnew g hg).imp (fun k => (h6 g).2 (.inr ⟨r', v, hv, k⟩)) id
      · exact .inl ((h6 g).2 (.inr ⟨r', u, hold r' u hu hne, hg⟩))
end
end Go.Proofs.Ytnkbbjeepdjamaa
