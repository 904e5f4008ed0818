/- refinerylaw07.GraphAhead: the order, plain; the map of places' numbers in it. No condition. -/
import Derived.Test.YtffnkbicbfjnpaaGAheadE
import Derived.Test.YtffnkbicbfjnpaaMaps
namespace Go.Proofs.Ytffnkbicbfjnpaa
open Go.RowKit
/-- The order of a graph whose ways rise. -/
structure APlain (n : Nat) (b : List (List Nat)) (o p : List Nat) : Prop where
  len : o.length = p.length
  nd : o.Nodup
  mem : ∀ x, x ∈ o ↔ x ∈ p
  lt : ∀ x ∈ o, x < n
  closed : ∀ v ∈ o, ∀ w ∈ b.getD v [], w ∈ o
  before : ∀ (x y v w : Nat), o[x]? = some v → o[y]? = some w → w ∈ b.getD v [] → x < y
  head : o[0]? = some 0
theorem ahead_order {b : List (List Nat)} {n : Nat} (hn : 0 < n) (hb : b.length = n) (hf : Few b) (hr : ∀ i, ∀ w ∈ b.getD i [], i < w) : APlain n b (dfs0 (nb b) n).post.reverse (dfs0 (nb b) n).pre := by
  have hlt : ∀ i, ∀ w ∈ nb b i, w < n := fun i w hw => by
    unfold nb at hw
    rw [List.getD_eq_getElem?_getD] at hw
    cases h : b[i]? with
    | none => rw [h] at hw; simp at hw
    | some l => rw [h] at hw; rw [← hb]; exact hf.lt i l h w hw
  have hw := dfs0_whole (nb b) n hn hlt
  have hp := reach_plain hn hb hf
  have hmem : ∀ x, x ∈ (dfs0 (nb b) n).post.reverse ↔ x ∈ (dfs0 (nb b) n).pre := fun x => by rw [List.mem_reverse, hw.post, hw.pre]
  refine ⟨?_, (List.reverse_perm _).nodup_iff.2 hw.postnd, hmem, fun x hx => hp.lt x ((hmem x).1 hx), fun v hv w hvw => ?_, fun x y v w hx hy hvw => ahead_plain hn hb hf hr hx hy hvw, ?_⟩
  · rw [← sortN_len, hp.ord, hp.len]
  · rw [hmem, hw.pre] at hv ⊢
    exact ⟨hlt v w hvw, hv.2.step hvw⟩
  · unfold dfs0
    rw [if_neg (by omega)]
    obtain ⟨m, rfl⟩ : ∃ m, n = m + 1 := ⟨n - 1, by omega⟩
    rw [dfs_succ]
    simp [DSt.leave]
theorem zero_int7 (w : World) : (zeroValue 3).run Try.prog w = .ok (.int .i64 0) w := by kernel_rfl
/-- The map tells of each of the first k of the order its place. -/
structure AtIs (w : World) (m : Nat) (o : List Nat) (k : Nat) (al : List (Int × Value)) : Prop where
  map : MapIs w m .i64 al
  len : al.length = k
  get : ∀ (j x : Nat), j < k → o[j]? = some x → getK al (x : Int) = some (.int .i64 (j : Int))
  key : ∀ (y : Int) v, getK al y = some v → ∃ j x : Nat, j < k ∧ o[j]? = some x ∧ (x : Int) = y
theorem AtIs.only {S : Nat → Prop} {a b : World} {m : Nat} {o : List Nat} {k : Nat} {al : List (Int × Value)} (h : AtIs a m o k al) (ho : Only S a b) (hn : ¬ S m) : AtIs b m o k al := ⟨h.map.only ho hn, h.len, h.get, h.key⟩
theorem AtIs.new (w : World) (o : List Nat) : AtIs (w.alloc (.map #[] 0)) w.heap.size o 0 [] := ⟨MapIs.new w .i64, rfl, fun j x h => by omega, fun y v h => by simp [getK] at h⟩
theorem AtIs.put {w : World} {m : Nat} {o : List Nat} {k : Nat} {al : List (Int × Value)} (h : AtIs w m o k al) (hnd : o.Nodup) {x : Nat} (hx : o[k]? = some x) :
    ∃ w', (Instr.mapUpdate 83 (.map (some m)) (.int .i64 (x : Int)) (.int .i64 (k : Int))).run Try.prog w = .ok () w' ∧ AtIs w' m o (k + 1) (updK al (x : Int) (.int .i64 (k : Int))) ∧ Only (fun g => g = m) w w' := by
  obtain ⟨w', h1, h2, ho⟩ := run_updK (P := Try.prog) Try.underlying83 Try.underlying3 h.map (x : Int) (.int .i64 (k : Int))
  obtain ⟨hk, hke⟩ := List.getElem?_eq_some_iff.1 hx
  have inj : ∀ (j y : Nat), o[j]? = some y → (y : Int) = (x : Int) → j = k := fun j y hj e => by
    obtain ⟨hj1, hj2⟩ := List.getElem?_eq_some_iff.1 hj
    exact (List.getElem_inj hnd).1 (by rw [hj2, hke]; omega)
  refine ⟨w', h1, ⟨h2, ?_, fun j y hj hy => ?_, fun y v hv => ?_⟩, ho⟩
  · rw [len_upd, if_neg, h.len]
    intro hm
    have : getK al (x : Int) ≠ none := fun e => (getK_none.1 e) hm
    cases hg : getK al (x : Int) with
    | none => exact this hg
    | some v =>
      obtain ⟨j, y, hj, hy, e⟩ := h.key _ _ hg
      have := inj j y hy e
      omega
  · rw [getK_upd]
    by_cases e : (x : Int) = (y : Int)
    · rw [if_pos e, inj j y hy e.symm]
    · rw [if_neg e]
      refine h.get j y ?_ hy
      have : j ≠ k := fun e2 => by
        rw [e2, hx] at hy
        have := Option.some.inj hy
        omega
      omega
  · rw [getK_upd] at hv
    by_cases e : (x : Int) = y
    · exact ⟨k, x, by omega, hx, e⟩
    · rw [if_neg e] at hv
      obtain ⟨j, y', h1, h2, h3⟩ := h.key _ _ hv
      exact ⟨j, y', by omega, h2, h3⟩
theorem AtIs.look {w : World} {m : Nat} {o : List Nat} {k : Nat} {al : List (Int × Value)} (h : AtIs w m o k al) {j x : Nat} (hj : j < k) (hx : o[j]? = some x) :
    (Instr.lookup 83 (.map (some m)) (.int .i64 (x : Int)) false).run Try.prog w = .ok (.int .i64 (j : Int)) w := by
  have := run_lookupK (P := Try.prog) Try.underlying83 Try.underlying3 zero_int7 h.map (x : Int)
  rw [this, h.get j x hj hx]; rfl
theorem AtIs.size {w : World} {m : Nat} {o : List Nat} {k : Nat} {al : List (Int × Value)} (h : AtIs w m o k al) (ty : TypeId) : (Builtin.len_ #[83] ty #[.map (some m)]).run Try.prog w = .ok (.int .i64 k) w := by
  rw [← h.len]
  exact run_lenK (P := Try.prog) Try.underlying83 h.map rfl
end Go.Proofs.Ytffnkbicbfjnpaa
