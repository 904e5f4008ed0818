/- A range over a set of numbers, whatever its body does beside the set; a loop whose frame has marks from the beginning on. Condition: the body keeps the set's cells. -/
import Derived.Test.YtnkbbjeepdjamaaMarks
import Derived.Test.YtnkbbjeepdjamaaAllIt
namespace Go.Proofs.Ytnkbbjeepdjamaa
open Go.RowKit Go.Shelf
theorem LoopI.start2 {ks : List Nat} {R : (Nat → Value) → List Nat → World → Prop} {a : Act} {w : World} (ds : List Nat) (hd : a.defers = ds.map mark) (hR : R (fun k => a.tmps.getD k undef) ds w) : LoopI ks R a a w :=
  ⟨_, ds, by rw [putL_same]; cases a; simp only at hd; subst hd; rfl, hR⟩
theorem wp_each {g : Operand} {ps : Array Tmp} {assign body : Code} {Q : Exit → Act → World → Prop} {a : Act} {w : World} {BX : Nat} {A : Option Addr} {c : Nat} {xs : List Int} (hmax : xs.length ≤ maxLen)
    (hg : a.eval g = .func (.func 71) #[] #[.pointer (some ⟨BX, 0, none⟩)]) (hps : ps.size = 1)
    (I : Nat → World → Prop) (hrd : ∀ k W, I k W → SI.CellsAt A xs W ∧ W.cell? ⟨BX, 0, none⟩ = some (.slice A xs.length c))
    (hI : ∀ k A B, I k A → Only (fun j => j = w.heap.size + 1) A B → I k B) (h0 : ∀ W, Only (fun _ => False) w W → I 0 W)
    (Ax : Int → Act → Prop)
    (hassign : ∀ (y : Int) (W : World) (K : Act → World → Prop), (∀ a', Ax y a' → K a' W) → assign.wpIn (Fence.wide.inRound (w.heap.size + 1)) 4 Try.prog (Exit.then K (fun _ _ _ => False)) { tmps := (ps.zip #[.int .i64 y]).foldl (fun t (p, v) => t.setIfInBounds p v) a.tmps, defers := [] } W)
    (hbody : ∀ (k : Nat) (y : Int) (a' : Act) (W : World), xs[k]? = some y → Ax y a' → I k W → w.heap.size + 1 < W.heap.size → body.wpIn (Fence.wide.inRound (w.heap.size + 1)) 4 Try.prog (rfPost w.heap.size (I (k + 1)) (fun _ _ => False) W) a' W)
    (hdone : ∀ W, I xs.length W → W.heap[w.heap.size]? = some (.deferred (some [])) → Q .normal { a with defers := mark w.heap.size :: a.defers } W) :
    (Code.rangeFunc g ps assign body).wpIn Fence.wide 6 Try.prog Q a w := by
  refine wpIn_rf_steps (n := 6) rfl (by omega) (gf := 71) (lb := #[.pointer (some ⟨BX, 0, none⟩)]) hg trivial (enters_of Try.func71 (by kernel_rfl) rfl) (encs := SI.encs xs) (N := xs.length) (fun k => by rw [hps]; rfl)
    (Rd := fun W => SI.CellsAt A xs W ∧ W.cell? ⟨BX, 0, none⟩ = some (.slice A xs.length c))
    (fun J Jx hR hY W hJ => SI.all_in 5 BX _ A c xs hmax J Jx (fun k W h => (hR k W h).1) hY W (hR 0 W hJ).2 hJ)
    I (fun _ _ _ => False) hrd hI (fun _ _ _ _ h _ => h) (fun W hO _ => h0 W hO) (fun k a' _ => ∃ y, xs[k]? = some y ∧ Ax y a') (fun _ _ _ _ h _ => h) ?_ ?_ (fun W h1 h2 => hdone W h1 h2) (fun _ _ _ h _ => h.elim)
  · intro k W K hk hIk _ hK
    obtain ⟨y, hy⟩ : ∃ y, xs[k]? = some y := ⟨_, List.getElem?_eq_getElem hk⟩
    have he : SI.encs xs k = #[.int .i64 y] := by simp [SI.encs, hy]
    rw [he]
    exact hassign y W K (fun a' h => hK a' W (Only.refl _ _) ⟨y, hy, h⟩)
  · rintro k a' W hk hIk ⟨y, hy, hx⟩ hD ⟨r, hl⟩
    exact hbody k y a' W hy hx hIk (Array.getElem?_eq_some_iff.1 hl).1
theorem cellsAt_old {A : Option Addr} {xs : List Int} {w w' : World} {T : Nat → Prop} (h : SI.CellsAt A xs w) (ho : Only T w w') (hn : ∀ g o, A = some ⟨g, o, none⟩ → ¬ T g) : SI.CellsAt A xs w' := fun i hi => by
  obtain ⟨g, o, e, hc⟩ := h i hi
  exact ⟨g, o, e, (ho.cell (p := ⟨g, o + i, none⟩) (World.block_lt_of_cell? w _ hc) (hn g o e)).trans hc⟩
end Go.Proofs.Ytnkbbjeepdjamaa
