/- graph.New, Len, Behind, Ahead; slices.Clone of a row. Conditions: few places. -/
import Derived.Test.YtnkbbjeepdjamaaGMem
import Derived.Test.YtnkbbjeepdjamaaIndex
import Derived.Lib.AppendZeros
import Derived.Lib.Hide
import Derived.WalkLawsBesides
import Derived.WalkSpells
import Derived.Laws.MakeOwn
import Derived.Laws.OwnMore
import Derived.RegionTactic
import Derived.Deep.QuietTactic
import Derived.BigQuiet
namespace Go.Proofs.Ytnkbbjeepdjamaa
open Go.RowKit
theorem append_read {P : Program} {w : World} {base : Nat} (t ty e : TypeId) (i : TypeInfo) (z : Value) (bytes : Nat) (ht : P.underlying t = some (.slice e)) (hi : P.info? e = some i) (hz : i.zero = some z) (hsize : i.size = 1) (hby : i.bytes = bytes) (hzs : z.cells.size = 1)
    {v : Value} {n : Nat} {xs : List Value} (h : w.ownsRow base e 1 v n xs) (A : Option Addr) (c : Nat) (news : List Value) (hA : 0 < news.length → ∃ ad, A = some ad ∧ ∀ j u, news[j]? = some u → w.cell? (ad.add j) = some u) (h1 : ∀ u ∈ news, u.oneCell' = true)
    (hb : base ≤ w.heap.size) (h63 : n + news.length ≤ maxLen) (hbytes : (n + news.length) * bytes ≤ 140737488355328) :
    ∃ v' w', (Builtin.append_ #[t, t] ty #[v, .slice A news.length c]).run P w = .ok v' w' ∧ w'.ownsRow base e 1 v' (n + news.length) (xs ++ news) ∧ w.grownBy w' v.ownBlock := by
  cases A with
  | none =>
    have hn : news = [] := by
      cases news with
      | nil => rfl
      | cons u r => obtain ⟨ad, e, _⟩ := hA (by simp); cases e
    subst hn
    refine ⟨v, w, ?_, by simpa using h, World.grownBy.refl _ _⟩
    rcases h.2 with ⟨rfl, rfl⟩ | ⟨g, cap, cur, rfl, _, _, hnc, _⟩
    · simp [Builtin.append_, run_underlying ht, sizeOf, typeInfo, hi, Builtin.lenOf, Builtin.firstCells]
    · simp [Builtin.append_, run_underlying ht, sizeOf, typeInfo, hi, Builtin.lenOf, Builtin.firstCells, hnc, storeCells]
  | some ad =>
    obtain ⟨v', w', hr, r1, r2, _⟩ := run_append_own (P := P) w base t ty e i z 1 bytes ht hi hz hsize hby hzs (by omega) v n xs h ad news.length c news (by simp) (fun j u hj => by
      obtain ⟨ad', e, hc⟩ := hA (by have := (List.getElem?_eq_some_iff.1 hj).1; omega)
      cases e
      exact hc j u hj) h1 h63 hbytes hb
    exact ⟨v', w', hr, r1, r2⟩
theorem rowAt_read {w : World} {base : Nat} {e : TypeId} {A : Option Addr} {n c : Nat} {vs : List Value} (h : RowAt w base e (.slice A n c) vs) : n = vs.length ∧ (0 < vs.length → ∃ ad, A = some ad ∧ ∀ j u, vs[j]? = some u → w.cell? (ad.add j) = some u) := by
  have h' := h
  rcases h with ⟨hv, rfl⟩ | ⟨g, o, cap, cur, hv, _⟩
  · injection hv with h1 h2 h3
    exact ⟨by simpa using h2, fun hn => absurd hn (by simp)⟩
  · injection hv with h1 h2 h3
    subst h1
    exact ⟨h2, fun _ => ⟨_, rfl, fun j u hj => by rw [Addr.add_lit]; exact h'.cell j u hj⟩⟩
theorem rowAt_slice {w : World} {base : Nat} {e : TypeId} {v : Value} {vs : List Value} (h : RowAt w base e v vs) : ∃ A c, v = .slice A vs.length c ∧ vs.length ≤ c ∧ c ≤ maxLen ∧ (A = none → vs.length = 0 ∧ c = 0) := by
  rcases h with ⟨rfl, rfl⟩ | ⟨g, o, cap, cur, rfl, _, _, h1, h2, _⟩
  · exact ⟨none, 0, rfl, Nat.le_refl _, by simp [maxLen], fun _ => ⟨rfl, rfl⟩⟩
  · exact ⟨_, cap, rfl, h1, h2, fun h => by cases h⟩
theorem eq_nilI : ∀ w : World, (binOp .eql 31 (.slice none 0 0) (.slice none 0 0)).run Try.prog w = .ok (.bool true) w := fun w => by kernel_rfl
theorem cloneG_nil (w : World) : Calls Try.prog 56 #[.slice none 0 0] w fun e w' => e = .returned (.slice none 0 0) ∧ w = w' := by
  have e1 := eq_nilI
  go_enter Try.func56, Try.ntmps56
  go_wp2
  go_ret
  exact ⟨rfl, rfl⟩
/-- A copy of a row. -/
theorem cloneG {w : World} {base : Nat} {v : Value} {l : List Nat} (h : RowAt w base 3 v (l.map iv)) (hn : l.length ≤ 1048576) :
    Calls Try.prog 56 #[v] w fun e w' => ∃ v', e = .returned v' ∧ w'.ownsRow w.heap.size 3 1 v' l.length (l.map iv) ∧ Below w.heap.size w w' := by
  obtain ⟨A, c, rfl, hlc, hcm, hA⟩ := rowAt_slice h
  cases A with
  | none =>
    obtain ⟨h1, rfl⟩ := hA rfl
    obtain rfl : l = [] := by simpa using h1
    refine (cloneG_nil w).mono ?_
    rintro e w' ⟨rfl, rfl⟩
    exact ⟨_, rfl, World.ownsRow_nil _ _ _ _, Below.refl _ _⟩
  | some ad =>
    have hne := Lib.run_eql_slice_nil (P := Try.prog)
    have hown : (w.alloc (.cells #[] 3)).ownsRow w.heap.size 3 1 (.slice (some ⟨w.heap.size, 0, none⟩) 0 0) 0 [] := ⟨rfl, .inr ⟨w.heap.size, 0, #[], rfl, Nat.le_refl _, Array.getElem?_push_size, Nat.le_refl _, by decide, rfl, rfl⟩⟩
    obtain ⟨i0, hi0, hz0, hz1, hz2⟩ := info_parts infoI
    have hl := hlc
    rw [List.length_map] at hl
    have hr1 := (h.only (Only.alloc (fun _ => False) w (.cells #[] 3)) (fun _ _ e => e))
    obtain ⟨v', w', hr, r1, r2⟩ := append_read (P := Try.prog) 31 31 3 i0 (.int .i64 0) 8 Try.underlying31 hi0 hz0 hz1 hz2 rfl hown (some ad) c (l.map iv) (rowAt_read hr1).2 (one_iv l) (by simp) (by unfold maxLen; simp; omega) (by simp; omega)
    simp only [List.length_map, Nat.zero_add, List.nil_append] at hr r1 ⊢
    have hb : Below w.heap.size w w' := ((Only.alloc (fun k => k = w.heap.size) w _).trans (Only.grown r2) (fun x hx e => by simp [Value.ownBlock] at e; exact e.symm)).below (Nat.le_refl _) (fun k hk e => by omega)
    have HR := Lib.hid hr
    have H := Lib.hid (And.intro r1 hb)
    clear hr r1 r2 hb hi0 hz0 hz1 hz2 hown hlc hcm hA hr1 h hl
    go_enter Try.func56, Try.ntmps56
    go_wp2_with (first | (at_builtin; refine Lib.wpList_append_run _ rfl _ _ _ _ rfl _ _ rfl rfl _ _ HR.out ?_) | fail)
    go_ret
    exact ⟨_, rfl, H.out.1, H.out.2⟩
/-- How many places. -/
theorem len_calls (q n p m : Nat) (x y : Nat) (w : World) : Calls Try.prog 28 #[.agg #[.slice (some ⟨q, 0, none⟩) n x, .slice (some ⟨p, 0, none⟩) m y]] w fun e w' => e = .returned (.int .i64 n) ∧ Below w.heap.size w w' := by
  go_enter Try.func28, Try.ntmps28
  go_wp2
  go_ret
  exact ⟨rfl, (Below.refl _ _).alloc (Nat.le_refl _) _⟩
end Go.Proofs.Ytnkbbjeepdjamaa
