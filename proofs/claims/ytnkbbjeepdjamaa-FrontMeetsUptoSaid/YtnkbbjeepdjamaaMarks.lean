/- A range over a function within a loop: each pass leaves one more mark with the function's deferred calls; what the loop's law and the function's end ask then. No condition. -/
import Derived.Test.YtnkbbjeepdjamaaM6
import Derived.RangeFuncLeaves
import Derived.RangeFuncRecord
import Derived.Test.YtnkbbjeepdjamaaM2
namespace Go.Proofs.Ytnkbbjeepdjamaa
open Go.RowKit
variable {F : Fence} {n : Nat} {P : Program}
/-- A loop whose frame changes beside what its body writes: what is held is told of the frame at the beginning. -/
theorem wpIn_loopD {c : Code} {Q : Exit → Act → World → Prop} {a : Act} {w : World} (I : Act → Act → World → Prop) (μ : Act → World → Nat) (h0 : I a a w)
    (round : ∀ b w, I a b w → c.wpIn F n P (Exit.then (fun a' w' => I a a' w' ∧ μ a' w' < μ b w) Q) b w) : (Code.loop c).wpIn F n P Q a w :=
  wpIn_loop (I a) μ h0 round
theorem wp_loopD {c : Code} {Q : Exit → Act → World → Prop} {a : Act} {w : World} (I : Act → Act → World → Prop) (μ : Act → World → Nat) (h0 : I a a w)
    (round : ∀ b w, I a b w → c.wp P (Exit.then (fun a' w' => I a a' w' ∧ μ a' w' < μ b w) Q) b w) : (Code.loop c).wp P Q a w :=
  wp_loop (I a) μ h0 round
/-- Slots filled. -/
def putL (a : Act) (l : List (Nat × Value)) : Act := l.foldl (fun a p => a.put (some p.1) p.2) a
theorem put_same (a : Act) (k : Nat) : a.put (some k) (a.tmps.getD k undef) = a := by
  have h : a.tmps.setIfInBounds k (a.tmps.getD k undef) = a.tmps := by
    apply Array.ext_getElem?
    intro i
    rw [Array.getElem?_setIfInBounds]
    split
    · rename_i e
      subst e
      split
      · rename_i h; simp [h]
      · rename_i h; rw [Array.getElem?_eq_none (by omega)]
    · rfl
  show { a with tmps := a.tmps.setIfInBounds k (a.tmps.getD k undef) } = a
  rw [h]
theorem putL_same (a : Act) : ∀ ks : List Nat, putL a (ks.map fun k => (k, a.tmps.getD k undef)) = a
  | [] => rfl
  | k :: ks => by
    show putL (a.put (some k) (a.tmps.getD k undef)) (ks.map fun k => (k, a.tmps.getD k undef)) = a
    rw [put_same]
    exact putL_same a ks
/-- A mark. -/
def mark (D : Nat) : Deferred := { target := .collected D, args := #[] }
/-- What is held at a loop's head: of the slots that its body writes what they hold, of the deferred calls that they are marks. -/
def LoopI (ks : List Nat) (R : (Nat → Value) → List Nat → World → Prop) (a0 b : Act) (w : World) : Prop := ∃ (u : Nat → Value) (ds : List Nat), b = { putL a0 (ks.map fun k => (k, u k)) with defers := ds.map mark } ∧ R u ds w
theorem LoopI.start {ks : List Nat} {R : (Nat → Value) → List Nat → World → Prop} {a : Act} {w : World} (hd : a.defers = []) (hR : R (fun k => a.tmps.getD k undef) [] w) : LoopI ks R a a w :=
  ⟨_, [], by rw [putL_same]; cases a; simp only at hd; subst hd; rfl, hR⟩
theorem LoopI.mk {ks : List Nat} {R : (Nat → Value) → List Nat → World → Prop} {a0 b : Act} {w : World} {ds : List Nat} (hb : b = { putL a0 (ks.map fun k => (k, b.tmps.getD k undef)) with defers := ds.map mark }) (hR : R (fun k => b.tmps.getD k undef) ds w) : LoopI ks R a0 b w :=
  ⟨_, ds, hb, hR⟩
/-- The marks that stand. -/
structure Marks (lo : Nat) (ds : List Nat) (w : World) : Prop where
  nd : ds.Nodup
  at_ : ∀ D ∈ ds, lo ≤ D ∧ w.heap[D]? = some (.deferred (some []))
theorem Marks.nil (lo : Nat) (w : World) : Marks lo [] w := ⟨List.nodup_nil, fun _ h => by cases h⟩
theorem Marks.lt {lo : Nat} {ds : List Nat} {w : World} (h : Marks lo ds w) {D : Nat} (hD : D ∈ ds) : D < w.heap.size := lt_blk (h.at_ D hD).2
theorem Marks.only {S : Nat → Prop} {lo : Nat} {ds : List Nat} {w w' : World} (h : Marks lo ds w) (ho : Only S w w') (hn : ∀ D ∈ ds, ¬ S D) : Marks lo ds w' :=
  ⟨h.nd, fun D hD => ⟨(h.at_ D hD).1, (ho.block D (h.lt hD) (hn D hD)).trans (h.at_ D hD).2⟩⟩
/-- What holds no mark: a block of cells. -/
theorem Marks.ne_cells {lo : Nat} {ds : List Nat} {w : World} (h : Marks lo ds w) {p : Nat} {cs : Array Value} {t : TypeId} {f : Nat × Nat} (hp : w.heap[p]? = some (.cells cs t f)) : p ∉ ds := fun hD => by
  have := (h.at_ p hD).2
  rw [hp] at this
  cases this
theorem Marks.cons {lo : Nat} {ds : List Nat} {w : World} (h : Marks lo ds w) {D : Nat} (hlo : lo ≤ D) (hD : w.heap[D]? = some (.deferred (some []))) (hn : D ∉ ds) : Marks lo (D :: ds) w :=
  ⟨List.nodup_cons.2 ⟨hn, h.nd⟩, fun E hE => by
    rcases List.mem_cons.1 hE with rfl | hE
    · exact ⟨hlo, hD⟩
    · exact h.at_ E hE⟩
/-- The function's end: the marks go, one by one; nothing else changes. -/
theorem Marks.leave {fn : Func} {tmps : Array Value} {R : Ending → World → Prop} {u : FrameMode} (hu : u ≠ .run) {lo : Nat} : ∀ (ds : List Nat) (w : World), Marks lo ds w → (∀ w', Only (fun k => k ∈ ds) w w' → LeavesIn F n P fn tmps R [] u w') → LeavesInM F n P fn tmps R (ds.map mark) u w
  | [], w, _, h => h w (Only.refl _ _)
  | D :: ds, w, hm, h => by
    refine ⟨hu, .inl ⟨D, _, rfl, run_takeDeferred (hm.at_ D List.mem_cons_self).2, ?_⟩⟩
    have hnd := List.nodup_cons.1 hm.nd
    have ho := Only.putObj w D (.deferred none)
    refine Marks.leave hu ds _ (lo := lo) ⟨hnd.2, fun E hE => ?_⟩ (fun w' ho' => h w' ?_)
    · have hne : E ≠ D := fun e => hnd.1 (e ▸ hE)
      exact ⟨(hm.at_ E (List.mem_cons_of_mem _ hE)).1, (World.putObj_heap_other hne).trans (hm.at_ E (List.mem_cons_of_mem _ hE)).2⟩
    · exact (ho.mono (fun x _ e => by subst e; exact List.mem_cons_self)).trans (ho'.mono (fun x _ e => e)) (fun x _ e => List.mem_cons_of_mem _ e)
end Go.Proofs.Ytnkbbjeepdjamaa
