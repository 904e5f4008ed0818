/- graph.walk with the closures of Reached: depth first. Conditions: few places. -/
import Derived.Test.YtnkbbjeepdjamaaGBox

import Derived.LoopTactic
import Derived.Outline
namespace Go.Proofs.Ytnkbbjeepdjamaa
open Go.RowKit
namespace WR
/-- What the closures have kept. -/
def JW (w : World) (base B : Nat) (st : DSt) (S : Nat → Prop) : Prop := (∀ g, ¬ S g) ∧ w.heap.size = w.heap.size ∧ base = base ∧ B = B ∧ st = st
set_option linter.unusedVariables false in
theorem JW.only {w w' : World} {base B : Nat} {st : DSt} {S T : Nat → Prop} (h : JW w base B st S) (ho : Only T w w') (hn : ∀ g, S g → ¬ T g) : JW w' base B st S := ⟨h.1, rfl, rfl, rfl, rfl⟩
theorem JW.lt {w : World} {base B : Nat} {st : DSt} {S : Nat → Prop} (h : JW w base B st S) {g : Nat} (hg : S g) : g < w.heap.size ∧ base ≤ g := absurd hg (h.1 g)
/-- A graph, which places are seen, what the closures have kept: apart. -/
structure WS (w : World) (base : Nat) (gv : Value) (b a : List (List Nat)) (S1 : Nat → Prop) (q B : Nat) (st : DSt) (S2 : Nat → Prop) : Prop where
  gr : Gr w base gv b a S1
  seen : Seen w q st.seen
  len : st.seen.length = b.length
  jw : JW w base B st S2
  n1 : ¬ S1 q
  n2 : ¬ S2 q
  n12 : ∀ g, S1 g → ¬ S2 g
  ge : base ≤ q
  few : st.pre.length ≤ b.length ∧ st.post.length ≤ b.length
section
variable {w w' : World} {base : Nat} {gv : Value} {b a : List (List Nat)} {S1 : Nat → Prop} {q B : Nat} {st : DSt} {S2 : Nat → Prop}
theorem WS.later (h : WS w base gv b a S1 q B st S2) (hb : Below w.heap.size w w') : WS w' base gv b a S1 q B st S2 :=
  ⟨h.gr.later hb, h.seen.only (Only.of_below hb) (by have := lt_blk h.seen; omega), h.len, h.jw.only (Only.of_below hb) (fun g hg e => by have := (h.jw.lt hg).1; omega), h.n1, h.n2, h.n12, h.ge, h.few⟩
/-- The fields without the numbers that were met and left. -/
theorem WS.enter (h : WS w base gv b a S1 q B st S2) (v : Nat) {S2' : Nat → Prop} (hw : Only S2 (w.setCell ⟨q, v, none⟩ (.bool true)) w') (hj : JW w' base B (st.enter v) S2') (hs : ∀ g, S2' g → S2 g ∨ w.heap.size ≤ g) (hf : st.pre.length + 1 ≤ b.length) :
    WS w' base gv b a S1 q B (st.enter v) S2' := by
  have ho := Only.setCell w ⟨q, v, none⟩ (.bool true)
  have hq : q < w.heap.size := lt_blk h.seen
  refine ⟨(h.gr.only ho (fun g hg e => h.n1 (by have e : g = q := e; rw [← e]; exact hg))).only hw (fun g hg => h.n12 g hg), (h.seen.set v true).only hw h.n2, by simp [DSt.enter, h.len], hj, h.n1, fun e => ?_, fun g hg e => ?_, h.ge, by simp [DSt.enter]; exact ⟨hf, h.few.2⟩⟩
  · rcases hs q e with e | e
    · exact h.n2 e
    · omega
  · rcases hs g e with e | e
    · exact h.n12 g hg e
    · have := (h.gr.lt hg).1; omega
theorem WS.leave (h : WS w base gv b a S1 q B st S2) (v : Nat) {S2' : Nat → Prop} (hw : Only S2 w w') (hj : JW w' base B (st.leave v) S2') (hs : ∀ g, S2' g → S2 g ∨ w.heap.size ≤ g) (hf : st.post.length + 1 ≤ b.length) :
    WS w' base gv b a S1 q B (st.leave v) S2' := by
  have hq : q < w.heap.size := lt_blk h.seen
  refine ⟨h.gr.only hw (fun g hg => h.n12 g hg), h.seen.only hw h.n2, h.len, hj, h.n1, fun e => ?_, fun g hg e => ?_, h.ge, by simp [DSt.leave]; exact ⟨h.few.1, hf⟩⟩
  · rcases hs q e with e | e
    · exact h.n2 e
    · omega
  · rcases hs g e with e | e
    · exact h.n12 g hg e
    · have := (h.gr.lt hg).1; omega
end
/-- The closures. -/
def FirstOk : Prop := ∀ (w : World) (base B : Nat) (st : DSt) (S : Nat → Prop) (x : Nat), JW w base B st S → st.pre.length ≤ 1048575 →
    Calls Try.prog 58 (#[.int .i64 x] ++ #[]) w fun e w' => e = .returned (.tuple #[]) ∧ ∃ S', JW w' base B (st.enter x) S' ∧ Only S w w' ∧ ∀ g, S' g → S g ∨ w.heap.size ≤ g
def LastOk : Prop := ∀ (w : World) (base B : Nat) (st : DSt) (S : Nat → Prop) (x : Nat), JW w base B st S → st.post.length ≤ 1048575 →
    Calls Try.prog 59 (#[.int .i64 x] ++ #[]) w fun e w' => e = .returned (.tuple #[]) ∧ ∃ S', JW w' base B (st.leave x) S' ∧ Only S w w' ∧ ∀ g, S' g → S g ∨ w.heap.size ≤ g
theorem first_ok : FirstOk := by
  intro w base B st S x h hn
  go_enter Try.func58, Try.ntmps58
  go_wp2
  go_end0
  exact ⟨rfl, S, ⟨h.1, rfl, rfl, rfl, rfl⟩, Only.refl _ _, fun _ h => .inl h⟩
theorem last_ok : LastOk := by
  intro w base B st S x h hn
  go_enter Try.func59, Try.ntmps59
  go_wp2
  go_end0
  exact ⟨rfl, S, ⟨h.1, rfl, rfl, rfl, rfl⟩, Only.refl _ _, fun _ h => .inl h⟩
/-- A step: what is touched, what is new. -/
def Stp (q : Nat) (w : World) (S : Nat → Prop) (w' : World) (S' : Nat → Prop) : Prop := Only (fun x => x = q ∨ S x) w w' ∧ ∀ g, S' g → S g ∨ w.heap.size ≤ g
theorem Stp.refl (q : Nat) (w : World) (S : Nat → Prop) : Stp q w S w S := ⟨Only.refl _ _, fun _ h => .inl h⟩
theorem Stp.trans {q : Nat} {w w1 w2 : World} {S S1 S2 : Nat → Prop} (h : Stp q w S w1 S1) (k : Stp q w1 S1 w2 S2) : Stp q w S w2 S2 :=
  ⟨h.1.trans k.1 (fun x hx e => e.elim .inl (fun e => .inr ((h.2 x e).resolve_right (by omega)))), fun g hg => (k.2 g hg).elim (fun e => h.2 g e) (fun e => .inr (Nat.le_trans h.1.size e))⟩
theorem Stp.of {q : Nat} {w w' : World} {S S' : Nat → Prop} (h : Only S w w') (k : ∀ g, S' g → S g ∨ w.heap.size ≤ g) : Stp q w S w' S' := ⟨h.mono (fun _ _ e => .inr e), k⟩
theorem Stp.below {q : Nat} {w w' : World} (S : Nat → Prop) (h : Below w.heap.size w w') : Stp q w S w' S := ⟨(Only.of_below h).mono (fun k hk e => by omega), fun _ h => .inl h⟩
theorem Stp.put (q : Nat) (w : World) (S : Nat → Prop) (i : Nat) (v : Value) : Stp q w S (w.setCell ⟨q, i, none⟩ v) S := ⟨(Only.setCell w ⟨q, i, none⟩ v).mono (fun _ _ e => .inl e), fun _ h => .inl h⟩
/-- What a walk leaves. -/
def WPost (w : World) (base : Nat) (gv : Value) (b a : List (List Nat)) (S1 : Nat → Prop) (q B : Nat) (st : DSt) (S2 : Nat → Prop) (w' : World) : Prop :=
  ∃ S2', WS w' base gv b a S1 q B st S2' ∧ Stp q w S2 w' S2'
/-- How many may still be met, and left: those not seen. -/
def Room (n : Nat) (st : DSt) : Prop := st.pre.length + unseen st.seen ≤ n ∧ st.post.length + unseen st.seen ≤ n
def WalkOk (base : Nat) (gv : Value) (b a : List (List Nat)) (S1 : Nat → Prop) (q B : Nat) (g : Nat → List Nat) (k : Nat) : Prop :=
  ∀ (v : Nat) (st : DSt) (w : World) (S2 : Nat → Prop), WS w base gv b a S1 q B st S2 → st.seen.getD v true = false → unseen st.seen ≤ k → st.pre.length + unseen st.seen ≤ b.length → st.post.length + unseen st.seen ≤ b.length →
    Calls Try.prog 57 #[gv, .int .i64 v, .slice (some ⟨q, 0, none⟩) b.length b.length, .func (.func 58) #[] #[], .func (.func 59) #[] #[]] w fun e w' => e = .returned (.tuple #[]) ∧ WPost w base gv b a S1 q B (dfs g k v st) S2 w'
end WR
end Go.Proofs.Ytnkbbjeepdjamaa
