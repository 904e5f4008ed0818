/- A row in a box: what keeps it, one more by a closure; which places are seen. Conditions: few numbers. -/
import Derived.Test.YtnkbbjeepdjamaaGJoin
import Derived.Test.YtnkbbjeepdjamaaM1
import Derived.LoopTactic
import Derived.Outline
namespace Go.Proofs.Ytnkbbjeepdjamaa
open Go.RowKit
/-- A box that holds a row of numbers. -/
structure BoxRow (w : World) (base B : Nat) (l : List Nat) (S : Nat → Prop) : Prop where
  ex : ∃ v, w.heap[B]? = some (.cells #[v] 31 (0, 0)) ∧ RowAt w base 3 v (l.map iv) ∧ base ≤ B ∧ ∀ g, S g ↔ g = B ∨ v.ownBlock = some g
theorem BoxRow.only {w w' : World} {base B : Nat} {l : List Nat} {S T : Nat → Prop} (h : BoxRow w base B l S) (ho : Only T w w') (hn : ∀ g, S g → ¬ T g) : BoxRow w' base B l S := by
  obtain ⟨v, h1, h2, h3, h4⟩ := h.ex
  exact ⟨v, (ho.block B (lt_blk h1) (hn B ((h4 B).2 (.inl rfl)))).trans h1, h2.only ho (fun g hg => hn g ((h4 g).2 (.inr hg))), h3, h4⟩
theorem BoxRow.lt {w : World} {base B : Nat} {l : List Nat} {S : Nat → Prop} (h : BoxRow w base B l S) {g : Nat} (hg : S g) : g < w.heap.size ∧ base ≤ g := by
  obtain ⟨v, h1, h2, h3, h4⟩ := h.ex
  rcases (h4 g).1 hg with rfl | hg
  · exact ⟨lt_blk h1, h3⟩
  · exact h2.lt hg
theorem BoxRow.new {w : World} {base B : Nat} (h : w.heap[B]? = some (.cells #[.slice none 0 0] 31 (0, 0))) (hb : base ≤ B) : BoxRow w base B [] (fun g => g = B) :=
  ⟨_, h, RowAt.nil _ _ _, hb, fun g => by simp [Value.ownBlock]⟩
/-- What a closure that puts a number behind a boxed row leaves. -/
def PutPost (w : World) (base B : Nat) (l : List Nat) (S : Nat → Prop) (e : Ending) (w' : World) : Prop :=
  e = .returned (.tuple #[]) ∧ ∃ S', BoxRow w' base B l S' ∧ Only S w w' ∧ ∀ g, S' g → S g ∨ w.heap.size ≤ g
theorem put_final {w w1 : World} {base B x : Nat} {l : List Nat} {S : Nat → Prop} {v v' : Value} (h1 : w.heap[B]? = some (.cells #[v] 31 (0, 0))) (h2 : RowAt w base 3 v (l.map iv)) (h3 : base ≤ B) (h4 : ∀ g, S g ↔ g = B ∨ v.ownBlock = some g)
    (k1 : RowAt w1 base 3 v' ((l ++ [x]).map iv)) (k2 : Only (fun k => v.ownBlock = some k) w w1) (k3 : v'.ownBlock = v.ownBlock ∨ ∃ g, v'.ownBlock = some g ∧ w.heap.size ≤ g) :
    ∃ S', BoxRow (w1.setCell ⟨B, 0, none⟩ v') base B (l ++ [x]) S' ∧ Only S w (w1.setCell ⟨B, 0, none⟩ v') ∧ ∀ g, S' g → S g ∨ w.heap.size ≤ g := by
  have hvB : v.ownBlock ≠ some B := h2.ne_blk h1 (by decide)
  have hB1 : w1.heap[B]? = some (.cells #[v] 31 (0, 0)) := (k2.block B (lt_blk h1) hvB).trans h1
  have hv'B : v'.ownBlock ≠ some B := k1.ne_blk hB1 (by decide)
  have hs := Only.setCell w1 ⟨B, 0, none⟩ v'
  refine ⟨fun g => g = B ∨ v'.ownBlock = some g, ⟨v', ?_, k1.only hs (fun g hg e => hv'B (by rw [hg]; exact congrArg some e)), h3, fun _ => Iff.rfl⟩, (k2.mono (fun k _ e => (h4 k).2 (.inr e))).trans hs (fun k _ e => (h4 k).2 (.inl e)), fun g hg => ?_⟩
  · simp [World.setCell, Array.getElem?_modify, hB1]
  · rcases hg with rfl | hg
    · exact .inl ((h4 g).2 (.inl rfl))
    · rcases k3 with k3 | ⟨g', k3, k4⟩
      · exact .inl ((h4 g).2 (.inr (by rw [← k3]; exact hg)))
      · rw [k3] at hg; injection hg with hg; exact .inr (by omega)
/-- Which places are seen. -/
def Seen (w : World) (q : Nat) (s : List Bool) : Prop := w.heap[q]? = some (.cells (s.map Value.bool).toArray 4 (0, 0))
theorem Seen.only {w w' : World} {q : Nat} {s : List Bool} {T : Nat → Prop} (h : Seen w q s) (ho : Only T w w') (hn : ¬ T q) : Seen w' q s := (ho.block q (lt_blk h) hn).trans h
theorem Seen.cell {w : World} {q : Nat} {s : List Bool} (h : Seen w q s) (i : Nat) (hi : i < s.length) : w.cell? ⟨q, i, none⟩ = some (.bool (s.getD i true)) := by
  rw [cell_of_blk _ _ _ _ _ h]
  simp [List.getD_eq_getElem?_getD, hi]
theorem Seen.frozen {w : World} {q : Nat} {s : List Bool} (h : Seen w q s) (i : Nat) : w.frozen? ⟨q, i, none⟩ = false := by
  have h' : w.heap[q]? = some (.cells (s.map Value.bool).toArray 4 (0, 0)) := h
  simp [World.frozen?, h']
theorem Seen.set {w : World} {q : Nat} {s : List Bool} (h : Seen w q s) (i : Nat) (b : Bool) : Seen (w.setCell ⟨q, i, none⟩ (.bool b)) q (s.set i b) := by
  have h' : w.heap[q]? = some (.cells (s.map Value.bool).toArray 4 (0, 0)) := h
  have e : (s.set i b).map Value.bool = (s.map Value.bool).set i (.bool b) := by rw [List.map_set]
  unfold Seen
  rw [e, show ((s.map Value.bool).set i (.bool b)).toArray = (s.map Value.bool).toArray.setIfInBounds i (.bool b) by simp]
  simp [World.setCell, Array.getElem?_modify, h']
def falses (n : Nat) : Obj := .cells ((List.replicate n false).map Value.bool).toArray 4
theorem mk_falses (n : Nat) (hn : n ≤ 1048576) (w : World) : (Instr.makeSlice 38 (.int .i64 (n : Int)) (.int .i64 (n : Int))).run Try.prog w = .ok (.slice (some ⟨w.heap.size, 0, none⟩) n n) (w.alloc (falses n)) := by
  obtain ⟨i0, hi0, hz0, hz1, hz2⟩ := info_parts infoB
  have h := run_make (P := Try.prog) w 38 4 i0 _ Try.underlying38 hi0 hz0 .i64 .i64 n n (by omega) (Int.le_refl _) (by rw [hz2]; omega) (by omega)
  rw [h, hz1, Int.toNat_natCast, Nat.mul_one]
  unfold falses
  have e : (madeCells (Value.cells (.bool false)) n) = ((List.replicate n false).map Value.bool).toArray := by
    apply Array.toList_inj.1
    rw [show Value.cells (.bool false) = #[.bool false] from rfl, toList_madeCells_one]
    simp
  rw [e]
end Go.Proofs.Ytnkbbjeepdjamaa
/- graph.walk with the closures of Reached: depth first. Conditions: few places. -/

namespace Go.Proofs.Ytnkbbjeepdjamaa
open Go.RowKit
namespace WR
/-- What the closures have kept. -/
def JW (w : World) (base B : Nat) (st : DSt) (S : Nat → Prop) : Prop := (∀ g, ¬ S g) ∧ w.heap.size = w.heap.size ∧ base = base ∧ B = B ∧ st = st
set_option linter.unusedVariables false in
theorem JW.only {w w' : World} {base B : Nat} {st : DSt} {S T : Nat → Prop} (h : JW w base B st S) (ho : Only T w w') (hn : ∀ g, S g → ¬ T g) : JW w' base B st S := ⟨h.1, rfl, rfl, rfl, rfl⟩
theorem JW.lt {w : World} {base B : Nat} {st : DSt} {S : Nat → Prop} (h : JW w base B st S) {g : Nat} (hg : S g) : g < w.heap.size ∧ base ≤ g := absurd hg (h.1 g)
/-- A graph, which places are seen, what the closures have kept: apart. -/
structure WS (w : World) (base : Nat) (gv : Value) (b a : List (List Nat)) (S1 : Nat → Prop) (q B : Nat) (st : DSt) (S2 : Nat → Prop) : Prop where
  gr : Gr w base gv b a S1
  seen : Seen w q st.seen
  len : st.seen.length = b.length
  jw : JW w base B st S2
  n1 : ¬ S1 q
  n2 : ¬ S2 q
  n12 : ∀ g, S1 g → ¬ S2 g
  ge : base ≤ q
  few : st.pre.length ≤ b.length ∧ st.post.length ≤ b.length
section
variable {w w' : World} {base : Nat} {gv : Value} {b a : List (List Nat)} {S1 : Nat → Prop} {q B : Nat} {st : DSt} {S2 : Nat → Prop}
theorem WS.later (h : WS w base gv b a S1 q B st S2) (hb : Below w.heap.size w w') : WS w' base gv b a S1 q B st S2 :=
  ⟨h.gr.later hb, h.seen.only (Only.of_below hb) (by have := lt_blk h.seen; omega), h.len, h.jw.only (Only.of_below hb) (fun g hg e => by have := (h.jw.lt hg).1; omega), h.n1, h.n2, h.n12, h.ge, h.few⟩
/-- The fields without the numbers that were met and left. -/
theorem WS.enter (h : WS w base gv b a S1 q B st S2) (v : Nat) {S2' : Nat → Prop} (hw : Only S2 (w.setCell ⟨q, v, none⟩ (.bool true)) w') (hj : JW w' base B (st.enter v) S2') (hs : ∀ g, S2' g → S2 g ∨ w.heap.size ≤ g) (hf : st.pre.length + 1 ≤ b.length) :
    WS w' base gv b a S1 q B (st.enter v) S2' := by
  have ho := Only.setCell w ⟨q, v, none⟩ (.bool true)
  have hq : q < w.heap.size := lt_blk h.seen
  refine ⟨(h.gr.only ho (fun g hg e => h.n1 (by have e : g = q := e; rw [← e]; exact hg))).only hw (fun g hg => h.n12 g hg), (h.seen.set v true).only hw h.n2, by simp [DSt.enter, h.len], hj, h.n1, fun e => ?_, fun g hg e => ?_, h.ge, by simp [DSt.enter]; exact ⟨hf, h.few.2⟩⟩
  · rcases hs q e with e | e
    · exact h.n2 e
    · omega
  · rcases hs g e with e | e
    · exact h.n12 g hg e
    · have := (h.gr.lt hg).1; omega
theorem WS.leave (h : WS w base gv b a S1 q B st S2) (v : Nat) {S2' : Nat → Prop} (hw : Only S2 w w') (hj : JW w' base B (st.leave v) S2') (hs : ∀ g, S2' g → S2 g ∨ w.heap.size ≤ g) (hf : st.post.length + 1 ≤ b.length) :
    WS w' base gv b a S1 q B (st.leave v) S2' := by
  have hq : q < w.heap.size := lt_blk h.seen
  refine ⟨h.gr.only hw (fun g hg => h.n12 g hg), h.seen.only hw h.n2, h.len, hj, h.n1, fun e => ?_, fun g hg e => ?_, h.ge, by simp [DSt.leave]; exact ⟨h.few.1, hf⟩⟩
  · rcases hs q e with e | e
    · exact h.n2 e
    · omega
  · rcases hs g e with e | e
    · exact h.n12 g hg e
    · have := (h.gr.lt hg).1; omega
end
/-- The closures. -/
def FirstOk : Prop := ∀ (w : World) (base B : Nat) (st : DSt) (S : Nat → Prop) (x : Nat), JW w base B st S → st.pre.length ≤ 1048575 →
    Calls Try.prog 58 (#[.int .i64 x] ++ #[]) w fun e w' => e = .returned (.tuple #[]) ∧ ∃ S', JW w' base B (st.enter x) S' ∧ Only S w w' ∧ ∀ g, S' g → S g ∨ w.heap.size ≤ g
def LastOk : Prop := ∀ (w : World) (base B : Nat) (st : DSt) (S : Nat → Prop) (x : Nat), JW w base B st S → st.post.length ≤ 1048575 →
    Calls Try.prog 59 (#[.int .i64 x] ++ #[]) w fun e w' => e = .returned (.tuple #[]) ∧ ∃ S', JW w' base B (st.leave x) S' ∧ Only S w w' ∧ ∀ g, S' g → S g ∨ w.heap.size ≤ g
theorem first_ok : FirstOk := by
  intro w base B st S x h hn
  go_enter Try.func58, Try.ntmps58
  go_wp2
  go_end0
  exact ⟨rfl, S, ⟨h.1, rfl, rfl, rfl, rfl⟩, Only.refl _ _, fun _ h => .inl h⟩
theorem last_ok : LastOk := by
  intro w base B st S x h hn
  go_enter Try.func59, Try.ntmps59
  go_wp2
  go_end0
  exact ⟨rfl, S, ⟨h.1, rfl, rfl, rfl, rfl⟩, Only.refl _ _, fun _ h => .inl h⟩
/-- A step: what is touched, what is new. -/
def Stp (q : Nat) (w : World) (S : Nat → Prop) (w' : World) (S' : Nat → Prop) : Prop := Only (fun x => x = q ∨ S x) w w' ∧ ∀ g, S' g → S g ∨ w.heap.size ≤ g
theorem Stp.refl (q : Nat) (w : World) (S : Nat → Prop) : Stp q w S w S := ⟨Only.refl _ _, fun _ h => .inl h⟩
theorem Stp.trans {q : Nat} {w w1 w2 : World} {S S1 S2 : Nat → Prop} (h : Stp q w S w1 S1) (k : Stp q w1 S1 w2 S2) : Stp q w S w2 S2 :=
  ⟨h.1.trans k.1 (fun x hx e => e.elim .inl (fun e => .inr ((h.2 x e).resolve_right (by omega)))), fun g hg => (k.2 g hg).elim (fun e => h.2 g e) (fun e => .inr (Nat.le_trans h.1.size e))⟩
theorem Stp.of {q : Nat} {w w' : World} {S S' : Nat → Prop} (h : Only S w w') (k : ∀ g, S' g → S g ∨ w.heap.size ≤ g) : Stp q w S w' S' := ⟨h.mono (fun _ _ e => .inr e), k⟩
theorem Stp.below {q : Nat} {w w' : World} (S : Nat → Prop) (h : Below w.heap.size w w') : Stp q w S w' S := ⟨(Only.of_below h).mono (fun k hk e => by omega), fun _ h => .inl h⟩
theorem Stp.put (q : Nat) (w : World) (S : Nat → Prop) (i : Nat) (v : Value) : Stp q w S (w.setCell ⟨q, i, none⟩ v) S := ⟨(Only.setCell w ⟨q, i, none⟩ v).mono (fun _ _ e => .inl e), fun _ h => .inl h⟩
/-- What a walk leaves. -/
def WPost (w : World) (base : Nat) (gv : Value) (b a : List (List Nat)) (S1 : Nat → Prop) (q B : Nat) (st : DSt) (S2 : Nat → Prop) (w' : World) : Prop :=
  ∃ S2', WS w' base gv b a S1 q B st S2' ∧ Stp q w S2 w' S2'
/-- How many may still be met, and left: those not seen. -/
def Room (n : Nat) (st : DSt) : Prop := st.pre.length + unseen st.seen ≤ n ∧ st.post.length + unseen st.seen ≤ n
def WalkOk (base : Nat) (gv : Value) (b a : List (List Nat)) (S1 : Nat → Prop) (q B : Nat) (g : Nat → List Nat) (k : Nat) : Prop :=
  ∀ (v : Nat) (st : DSt) (w : World) (S2 : Nat → Prop), WS w base gv b a S1 q B st S2 → st.seen.getD v true = false → unseen st.seen ≤ k → st.pre.length + unseen st.seen ≤ b.length → st.post.length + unseen st.seen ≤ b.length →
    Calls Try.prog 57 #[gv, .int .i64 v, .slice (some ⟨q, 0, none⟩) b.length b.length, .func (.func 58) #[] #[], .func (.func 59) #[] #[]] w fun e w' => e = .returned (.tuple #[]) ∧ WPost w base gv b a S1 q B (dfs g k v st) S2 w'
end WR
end Go.Proofs.Ytnkbbjeepdjamaa
/- graph.walk with the closures of Reached goes depth first. Conditions: few places. -/
namespace Go.Proofs.Ytnkbbjeepdjamaa
open Go.RowKit
namespace WR
set_option maxRecDepth 100000 in
set_option maxHeartbeats 4000000 in
theorem walk_ok {base q B : Nat} {gv : Value} {b a : List (List Nat)} {S1 : Nat → Prop} (hn : b.length ≤ 1048575) (hb : ∀ (i : Nat) (l : List Nat), b[i]? = some l → ∀ x ∈ l, x < b.length) : ∀ k, WalkOk base gv b a S1 q B (fun i => b.getD i []) k
  | 0 => by
    intro v st w S2 hws hv hk
    have := unseen_set hv
    omega
  | k + 1 => by
    have IH := Lib.hid (walk_ok (base := base) (q := q) (B := B) (gv := gv) (a := a) (S1 := S1) hn hb k)
    intro v st w S2 hws hv hk hp1 hp2
    have hvn : v < b.length := by rw [← hws.len]; exact getD_lt hv
    have hu := unseen_set hv
    obtain ⟨q1, p1, vs, us, rfl, m1, m2, hla, hd, hS⟩ := hws.gr.ex
    obtain ⟨rv, l, hrv, hl, hr⟩ := m1.get hvn
    obtain ⟨A, c, rfl, _, _, _⟩ := rowAt_slice hr
    rw [List.length_map] at hr hrv
    have HW := Lib.hid hws
    have HV := Lib.hid hv
    have HL := Lib.hid (And.intro hrv (And.intro hl (And.intro hb (And.intro hS hr))))
    have HM := Lib.hid m1
    obtain ⟨X, hX⟩ : ∃ X, w.alloc (.cells #[.slice (some ⟨q1, 0, none⟩) b.length b.length, .slice (some ⟨p1, 0, none⟩) b.length b.length] 28) = X := ⟨_, rfl⟩
    obtain ⟨hx, hbx, hz⟩ := boxed hX rfl
    have hwX := hws.later hbx
    have c0 := hwX.seen.cell v (by rw [hws.len]; exact hvn)
    rw [hv, ← hX] at c0
    have f0 := hwX.seen.frozen v
    rw [← hX] at f0
    have HX := Lib.hid (And.intro hwX (And.intro hx (And.intro hbx (And.intro hz hX))))
    have hv0 : 0 ≤ (v : Int) := by omega
    have hv1 : (v : Int) < (b.length : Int) := by omega
    clear hwX hx hbx hz hX hws hv hrv hl hr hla hd hS m1 m2 hb
    go_enter Try.func57, Try.ntmps57
    go_wp2_with fail
    rw [HX.out.2.2.2.2]
    clear c0 f0
    have hq : q < w.heap.size := lt_blk HW.out.seen
    have hzX : X.heap.size = w.heap.size + 1 := HX.out.2.2.2.1
    refine (first_ok (X.setCell ⟨q, v, none⟩ (.bool true)) base B st S2 v (HX.out.1.jw.only (Only.setCell X ⟨q, v, none⟩ (.bool true)) (fun g hg e => HX.out.1.n2 (by have e : g = q := e; rw [← e]; exact hg))) (by omega)).mono ?_
    rintro e w2 ⟨rfl, S2', hj2, ho2, hs2⟩
    have hs2' : ∀ g, S2' g → S2 g ∨ X.heap.size ≤ g := fun g hg => (hs2 g hg).imp id (by simp)
    have hwe := HX.out.1.enter v ho2 hj2 hs2' (by omega)
    have hst : Stp q w S2 w2 S2' := ((Stp.below S2 HX.out.2.2.1).trans (Stp.put q X S2 v (.bool true))).trans (Stp.of ho2 hs2)
    have hm2 : Mat w2 base q1 vs b := HM.out.only hst.1 (fun g hg e => by
      have h1 : S1 g := (HL.out.2.2.2.1 g).2 (.inl hg)
      rcases e with e | e
      · exact HW.out.n1 (by rw [← e]; exact h1)
      · exact HW.out.n12 g h1 e)
    have hbx2 : w2.heap[w.heap.size]? = some (.cells #[.slice (some ⟨q1, 0, none⟩) b.length b.length, .slice (some ⟨p1, 0, none⟩) b.length b.length] 28 (0, 0)) := by
      rw [ho2.block w.heap.size (by simp; omega) (fun e => by have := (HW.out.jw.lt e).1; omega)]
      rw [Below.heap_setCell X ⟨q, v, none⟩ (.bool true) _ (by show w.heap.size ≠ q; omega)]
      exact HX.out.2.1
    have x0 := cell_of_blk _ _ _ _ _ hbx2 0
    have hc := hm2.cell v
    rw [HL.out.1] at hc
    have hnw : ¬ S2' w.heap.size := fun e => (hs2' _ e).elim (fun e => by have := (HW.out.jw.lt e).1; omega) (fun e => by omega)
    have HS := Lib.hid (And.intro hwe (And.intro hst (And.intro hm2 (And.intro hbx2 hnw))))
    have hlenl : l.length ≤ maxLen := by
      obtain ⟨A', c', h1, h2, h3, _⟩ := rowAt_slice HL.out.2.2.2.2
      rw [List.length_map] at h1 h2
      omega
    have hcnt := dfsL_count (fun i => b.getD i []) k
    have HCN := Lib.hid hcnt
    clear hj2 ho2 hs2 hs2' hwe hst hm2 hbx2 hnw hcnt HX hzX hq X
    simp at x0
    simp only [maxLen] at hlenl
    go_wp2_with fail
    clear x0 hc
    go_loopw [24] (fun i wr => ∃ j : Nat, i = .int .i64 (j : Int) ∧ Hid (j ≤ l.length ∧ WPost w2 base (.agg #[.slice (some ⟨q1, 0, none⟩) b.length b.length, .slice (some ⟨p1, 0, none⟩) b.length b.length]) b a S1 q B (dfsL (fun i => b.getD i []) k (l.take j) (st.enter v)) S2' wr)) (fun i _ => l.length - (intOf i).toNat)
    case atStart => exact ⟨0, rfl, Lib.hid ⟨Nat.zero_le _, S2', by rw [List.take_zero, dfsL_nil]; exact HS.out.1, Stp.refl _ _ _⟩⟩
    case round =>
      obtain ⟨j, rfl, HI⟩ := hrel
      obtain ⟨hj0, S3, hws3, hst3⟩ := HI.out
      clear HI
      have hne : ∀ g, S1 g → ¬ (g = q ∨ S2' g) := fun g h1 e => e.elim (fun e => HS.out.1.n1 (by rw [← e]; exact h1)) (fun e => HS.out.1.n12 g h1 e)
      have hm3 : Mat wr base q1 vs b := HS.out.2.2.1.only hst3.1 (fun g hg e => hne g ((HL.out.2.2.2.1 g).2 (.inl hg)) e)
      have hr3 : RowAt wr base 3 (.slice A l.length c) (l.map iv) := hm3.row v _ l HL.out.1 HL.out.2.1
      have hbx3 : wr.heap[w.heap.size]? = some (.cells #[.slice (some ⟨q1, 0, none⟩) b.length b.length, .slice (some ⟨p1, 0, none⟩) b.length b.length] 28 (0, 0)) := by
        rw [hst3.1.block w.heap.size (lt_blk HS.out.2.2.2.1) (fun e => ?_)]
        · exact HS.out.2.2.2.1
        · rcases e with e | e
          · have := lt_blk HW.out.seen; omega
          · exact HS.out.2.2.2.2 e
      have hcn := HCN.out (l.take j) (st.enter v)
      obtain ⟨s, hs⟩ : ∃ s, dfsL (fun i => b.getD i []) k (l.take j) (st.enter v) = s := ⟨_, rfl⟩
      rw [hs] at hws3 hcn
      have hen : (st.enter v).pre.length + unseen (st.enter v).seen = st.pre.length + unseen st.seen ∧ (st.enter v).post.length + unseen (st.enter v).seen + 1 = st.post.length + unseen st.seen := by
        simp only [DSt.enter, List.length_append, List.length_singleton]; omega
      by_cases hj : j < l.length
      · obtain ⟨x, hx⟩ : ∃ x, l[j]? = some x := ⟨_, List.getElem?_eq_getElem hj⟩
        have hxn : x < b.length := HL.out.2.2.1 v l HL.out.2.1 x (List.mem_of_getElem? hx)
        obtain ⟨g0, o0, rfl⟩ : ∃ g o, A = some ⟨g, o, none⟩ := by
          rcases hr3 with ⟨h1, h2⟩ | ⟨g, o, cap, cur, h1, _⟩
          · have : l = [] := by simpa using h2
            subst this; simp at hj
          · injection h1 with h1; exact ⟨g, o, h1⟩
        have hc := hr3.cell j (iv x) (by rw [List.getElem?_map, hx]; rfl)
        have hsc := hws3.seen.cell x (by rw [hws3.len]; exact hxn)
        have pp1 : ((j : Int) < (l.length : Int)) = True := eq_true (by omega)
        have q0 : 0 ≤ (x : Int) := by omega
        have q2 : (x : Int) < (b.length : Int) := by omega
        have hsn : dfsL (fun i => b.getD i []) k (l.take (j + 1)) (st.enter v) = if s.seen.getD x true = true then s else dfs (fun i => b.getD i []) k x s := by rw [take_snoc' l j x hx, dfsL_snoc, hs]
        have x0 := cell_of_blk _ _ _ _ _ hbx3 0
        have x1 := cell_of_blk _ _ _ _ _ hbx3 1
        have HSN := Lib.hid hsn
        have HC3 := Lib.hid (And.intro hws3 (And.intro hst3 hcn))
        have HE := Lib.hid hen
        unfold iv at hc
        simp at x0 x1
        by_cases hsx : s.seen.getD x true = true
        · rw [hsx] at hsc
          have HX := Lib.hid hsx
          clear hsn hws3 hst3 hcn hen hx hs hsx hbx3 hm3 hr3 hne x0 x1
          go_wp2_with fail
          go_roundw
          case rel => exact ⟨j + 1, by go_num, Lib.hid ⟨by omega, S3, by rw [HSN.out, if_pos HX.out]; exact HC3.out.1, HC3.out.2.1⟩⟩
          case measure => simp [intOf]; omega
        · have hsx' : s.seen.getD x true = false := by simpa using hsx
          rw [hsx'] at hsc
          have HX := Lib.hid (And.intro hsx hsx')
          clear hsn hws3 hst3 hcn hen hx hs hsx hsx' hbx3 hm3 hr3 hne
          go_wp2_with fail
          refine (IH.out x s wr S3 HC3.out.1 HX.out.2 (by have h1 := HC3.out.2.2.2.2.1; have h2 : unseen (st.enter v).seen + 1 = unseen st.seen := hu; omega) (by have := HC3.out.2.2.1; have := HE.out.1; omega) (by have := HC3.out.2.2.2.1; have := HE.out.2; omega)).mono ?_
          rintro e w4 ⟨rfl, S4, hw4, ho4⟩
          have HR4 := Lib.hid (And.intro hw4 ho4)
          clear hw4 ho4 x0 x1 hc hsc
          go_wp2_with fail
          go_roundw
          case rel => exact ⟨j + 1, by go_num, Lib.hid ⟨by omega, S4, by rw [HSN.out, if_neg HX.out.1]; exact HR4.out.1, HC3.out.2.1.trans HR4.out.2⟩⟩
          case measure => simp [intOf]; omega
      · obtain rfl : j = l.length := by omega
        have pp1 : ((l.length : Int) < (l.length : Int)) = False := eq_false (by omega)
        rw [List.take_length] at hs
        have HC3 := Lib.hid (And.intro hws3 (And.intro hst3 (And.intro hcn (And.intro hs hen))))
        clear hws3 hst3 hcn hen hs hbx3 hm3 hr3 hne
        go_wp2_with fail
        refine (last_ok wr base B s S3 v HC3.out.1.jw (by have := HC3.out.1.few.2; omega)).mono ?_
        rintro e w5 ⟨rfl, S5, hj5, ho5, hs5⟩
        have hfin := HC3.out.1.leave v ho5 hj5 hs5 (by have h1 := HC3.out.2.2.1.2.1; have h2 := HC3.out.2.2.2.2.2; have := HC3.out.2.2.1.2.2.1; omega)
        have hlv : b.getD v [] = l := by rw [List.getD_eq_getElem?_getD, HL.out.2.1]; rfl
        have hend : WPost w base (.agg #[.slice (some ⟨q1, 0, none⟩) b.length b.length, .slice (some ⟨p1, 0, none⟩) b.length b.length]) b a S1 q B (dfs (fun i => b.getD i []) (k + 1) v st) S2 w5 := by
          refine ⟨S5, ?_, (HS.out.2.1.trans HC3.out.2.1).trans (Stp.of ho5 hs5)⟩
          rw [dfs_succ]
          simp only [hlv]
          rw [HC3.out.2.2.2.1]
          exact hfin
        have HEND := Lib.hid hend
        clear hj5 ho5 hs5 hfin hlv hend
        go_wp2_with fail
        go_end0
        exact ⟨rfl, HEND.out⟩
end WR
end Go.Proofs.Ytnkbbjeepdjamaa
/- graph.Reached: the places that are reached from the first. Conditions: few places. -/
namespace Go.Proofs.Ytnkbbjeepdjamaa
open Go.RowKit
/-- Rows of places. -/
structure Few (b : List (List Nat)) : Prop where
  n : b.length ≤ 1048575
  lt : ∀ (i : Nat) (l : List Nat), b[i]? = some l → ∀ x ∈ l, x < b.length
def nb (b : List (List Nat)) : Nat → List Nat := fun i => b.getD i []
theorem falses_seen {w : World} {q n : Nat} (h : w.heap[q]? = some (falses n)) : Seen w q (dst0 n).seen := h
set_option maxRecDepth 100000 in
set_option maxHeartbeats 4000000 in
theorem reached_calls {w : World} {base : Nat} {gv : Value} {b a : List (List Nat)} {S : Nat → Prop} (h : Gr w base gv b a S) (hf : Few b) :
    Calls Try.prog 25 #[gv] w fun e w' => ∃ q, e = .returned (.slice (some ⟨q, 0, none⟩) b.length b.length) ∧ Seen w' q (dfs0 (nb b) b.length).seen ∧ w.heap.size ≤ q ∧ Below w.heap.size w w' := by
  have hmk := mk_falses b.length (by have := hf.n; omega)
  obtain ⟨q1, p1, vs, us, rfl, h1, h2, h3, h4, h5⟩ := h.ex
  have hge : base ≤ w.heap.size := by have := h1.lt (.inl rfl : MatB q1 vs q1); omega
  have H := Lib.hid h
  have HGE := Lib.hid hge
  clear h h1 h2 h3 h4 h5 hge
  go_enter Try.func25, Try.ntmps25
  go_wp2_with fail
  refine (len_calls q1 b.length p1 b.length b.length b.length _).mono ?_
  rintro e w2 ⟨rfl, hb⟩
  generalize hX : World.alloc w _ = X at *
  obtain ⟨hx, hbx, hz⟩ := boxed hX rfl
  have x0 : w2.cell? ⟨w.heap.size, 0, none⟩ = some (.slice (some ⟨q1, 0, none⟩) b.length b.length) := (cell_of_blk _ _ _ _ _ ((hb.block _ (by omega)).trans hx) 0)
  have x1 : w2.cell? ⟨w.heap.size, 1, none⟩ = some (.slice (some ⟨p1, 0, none⟩) b.length b.length) := (cell_of_blk _ _ _ _ _ ((hb.block _ (by omega)).trans hx) 1)
  have hs2 : w.heap.size < w2.heap.size := World.block_lt_of_cell? w2 _ x0
  have HB2 := Lib.hid (below_two hbx hb)
  have HX2 := Lib.hid ((hb.block w.heap.size (by omega)).trans hx)
  clear hb hX hx hbx hz
  go_wp2_with fail
  refine (len_calls q1 b.length p1 b.length b.length b.length _).mono ?_
  rintro e w3 ⟨rfl, hb⟩
  generalize hY : World.alloc w2 _ = Y at *
  obtain ⟨hy, hby, hz⟩ := boxed hY rfl
  have hby3 := below_two hby hb
  have y0 := (hby3.cell (p := ⟨w.heap.size, 0, none⟩) hs2).trans x0
  have y1 := (hby3.cell (p := ⟨w.heap.size, 1, none⟩) hs2).trans x1
  have hse : Seen w3 w2.heap.size (dst0 b.length).seen := falses_seen ((hb.block _ (by omega)).trans hy)
  have HS := Lib.hid (And.intro hse (below_two HB2.out hby3))
  have HZ := Lib.hid (And.intro hs2 hb.size)
  clear hb hY hy hby hz hby3 hse x0 x1 hs2
  by_cases hn : b.length = 0
  · have hd : decide (0 < b.length) = false := decide_eq_false (by omega)
    have hd2 : ((0 : Int) < (b.length : Int)) = False := eq_false (by omega)
    have HN := Lib.hid hn
    clear hn
    have hbel := HS.out.2
    go_wp2_with fail
    go_ret
    exact ⟨_, rfl, by unfold dfs0; rw [if_pos HN.out]; exact HS.out.1, Nat.le_of_lt HZ.out.1, hbel⟩
  · have hd : decide (0 < b.length) = true := decide_eq_true (by omega)
    have hd2 : 0 < b.length := by omega
    have HN := Lib.hid hn
    have hws : WR.WS w3 base (.agg #[.slice (some ⟨q1, 0, none⟩) b.length b.length, .slice (some ⟨p1, 0, none⟩) b.length b.length]) b a S w2.heap.size 0 (dst0 b.length) (fun _ => False) := by
      refine ⟨H.out.later HS.out.2, HS.out.1, by simp [dst0], ⟨fun _ h => h, rfl, rfl, rfl, rfl⟩, fun e => ?_, fun e => e, fun _ _ e => e, ?_, by simp [dst0]⟩
      · have := (H.out.lt e).1; have := HZ.out.1; omega
      · have := HGE.out; have := HZ.out.1; omega
    have HWS := Lib.hid hws
    clear hws hn
    go_wp2_with fail
    refine (WR.walk_ok (B := 0) hf.n hf.lt b.length 0 (dst0 b.length) w3 (fun _ => False) HWS.out (by rw [dst0_seen]; exact decide_eq_false (by have := HN.out; omega)) (by simp [dst0, unseen_replicate]) (by simp [dst0, unseen_replicate]) (by simp [dst0, unseen_replicate])).mono ?_
    rintro e w5 ⟨rfl, S2, hw5, hst⟩
    have hbel : Below w.heap.size w w5 := HS.out.2.trans (hst.1.below HS.out.2.size (fun k hk e => by
      rcases e with e | e
      · have := HZ.out.1; omega
      · exact e))
    have HR := Lib.hid hw5.seen
    clear hw5 hst
    go_wp2_with fail
    go_ret
    exact ⟨_, rfl, by unfold dfs0; rw [if_neg HN.out]; exact HR.out, Nat.le_of_lt HZ.out.1, hbel⟩
end Go.Proofs.Ytnkbbjeepdjamaa
/- refinerylaw07.Awake answers true. No condition. -/
namespace Go.Proofs.Ytnkbbjeepdjamaa
open Go.RowKit
theorem Gr.form {w : World} {base : Nat} {gv : Value} {b a : List (List Nat)} {S : Nat → Prop} (h : Gr w base gv b a S) : ∃ q p, gv = .agg #[.slice (some ⟨q, 0, none⟩) b.length b.length, .slice (some ⟨p, 0, none⟩) b.length b.length] := by
  obtain ⟨q, p, _, _, e, _⟩ := h.ex
  exact ⟨q, p, e⟩
/-- A box that holds a graph stays. -/
def GBox (w : World) (g : Nat) (gv : Value) : Prop := w.cell? ⟨g, 0, none⟩ = some (gv.cells.getD 0 undef) ∧ w.cell? ⟨g, 1, none⟩ = some (gv.cells.getD 1 undef)
theorem GBox.only {w w' : World} {g : Nat} {gv : Value} {T : Nat → Prop} (h : GBox w g gv) (ho : Only T w w') (hn : ¬ T g) : GBox w' g gv :=
  have hlt := World.block_lt_of_cell? w _ h.1
  ⟨(ho.cell (p := ⟨g, 0, none⟩) hlt hn).trans h.1, (ho.cell (p := ⟨g, 1, none⟩) hlt hn).trans h.2⟩
theorem GBox.later {w w' : World} {g : Nat} {gv : Value} (h : GBox w g gv) (hb : Below w.heap.size w w') : GBox w' g gv :=
  h.only (Only.of_below hb) (fun e => by have := World.block_lt_of_cell? w _ h.1; simp only at this; omega)
end Go.Proofs.Ytnkbbjeepdjamaa
/- refinerylaw07.Small.Graph: the graph, and the rows of places behind each. Conditions: the numbers are of their kinds; few ways. -/
namespace Go.Proofs.Ytnkbbjeepdjamaa
open Go.RowKit
def joinB (b : List (List Nat)) (i j : Nat) : List (List Nat) := if j ∈ b.getD i [] then b else b.set i (b.getD i [] ++ [j])
def joinA (b a : List (List Nat)) (i j : Nat) : List (List Nat) := if j ∈ b.getD i [] then a else a.set j (sortN (a.getD j [] ++ [i]))
def graphBA (n : Nat) (es : List (Nat × Nat)) : List (List Nat) × List (List Nat) := es.foldl (fun s e => (joinB s.1 (e.1 % n) (e.2 % n), joinA s.1 s.2 (e.1 % n) (e.2 % n))) (List.replicate n [], List.replicate n [])
def graphB (n : Nat) (es : List (Nat × Nat)) : List (List Nat) := (graphBA n es).1
def graphA (n : Nat) (es : List (Nat × Nat)) : List (List Nat) := (graphBA n es).2
theorem graphB_snoc (n : Nat) (es : List (Nat × Nat)) (e : Nat × Nat) : graphB n (es ++ [e]) = joinB (graphB n es) (e.1 % n) (e.2 % n) := by simp [graphB, graphBA]
theorem graphA_snoc (n : Nat) (es : List (Nat × Nat)) (e : Nat × Nat) : graphA n (es ++ [e]) = joinA (graphB n es) (graphA n es) (e.1 % n) (e.2 % n) := by simp [graphA, graphB, graphBA]
theorem joinB_len (b : List (List Nat)) (i j : Nat) : (joinB b i j).length = b.length := by unfold joinB; split <;> simp
theorem joinA_len (b a : List (List Nat)) (i j : Nat) : (joinA b a i j).length = a.length := by unfold joinA; split <;> simp
/-- Rows of places: few, each place below the number of places. -/
structure Rows12 (n m : Nat) (b a : List (List Nat)) : Prop where
  lb : b.length = n
  la : a.length = n
  few : ∀ (i : Nat) (l : List Nat), b[i]? = some l → l.length ≤ m ∧ ∀ x ∈ l, x < n
  fewA : ∀ (i : Nat) (l : List Nat), a[i]? = some l → l.length ≤ m ∧ ∀ x ∈ l, x < n
theorem sortN_mem (l : List Nat) (x : Nat) : x ∈ sortN l ↔ x ∈ l := (List.mergeSort_perm l _).mem_iff
theorem sortN_len (l : List Nat) : (sortN l).length = l.length := List.length_mergeSort l
theorem Rows12.join {n m : Nat} {b a : List (List Nat)} (h : Rows12 n m b a) (i j : Nat) (hi : i < n) (hj : j < n) : Rows12 n (m + 1) (joinB b i j) (joinA b a i j) := by
  have up : ∀ {l : List Nat}, (l.length ≤ m ∧ ∀ x ∈ l, x < n) → l.length ≤ m + 1 ∧ ∀ x ∈ l, x < n := fun h => ⟨by omega, h.2⟩
  have gb : (b.getD i []).length ≤ m ∧ ∀ x ∈ b.getD i [], x < n := h.few i _ (by rw [List.getD_eq_getElem?_getD, List.getElem?_eq_getElem (by rw [h.lb]; exact hi)]; rfl)
  have ga : (a.getD j []).length ≤ m ∧ ∀ x ∈ a.getD j [], x < n := h.fewA j _ (by rw [List.getD_eq_getElem?_getD, List.getElem?_eq_getElem (by rw [h.la]; exact hj)]; rfl)
  refine ⟨by rw [joinB_len, h.lb], by rw [joinA_len, h.la], fun k l hl => ?_, fun k l hl => ?_⟩
  · unfold joinB at hl
    split at hl
    · exact up (h.few k l hl)
    · by_cases e : i = k
      · subst e
        rw [List.getElem?_set_self (by rw [h.lb]; exact hi)] at hl
        cases hl
        refine ⟨by rw [List.length_append, List.length_singleton]; omega, fun x hx => ?_⟩
        rcases List.mem_append.1 hx with hx | hx
        · exact gb.2 x hx
        · simp at hx; omega
      · rw [List.getElem?_set_ne e] at hl
        exact up (h.few k l hl)
  · unfold joinA at hl
    split at hl
    · exact up (h.fewA k l hl)
    · by_cases e : j = k
      · subst e
        rw [List.getElem?_set_self (by rw [h.la]; exact hj)] at hl
        cases hl
        refine ⟨by rw [sortN_len, List.length_append, List.length_singleton]; omega, fun x hx => ?_⟩
        rcases List.mem_append.1 ((sortN_mem _ _).1 hx) with hx | hx
        · exact ga.2 x hx
        · simp at hx; omega
      · rw [List.getElem?_set_ne e] at hl
        exact up (h.fewA k l hl)
theorem rows_new (n : Nat) : Rows12 n 0 (List.replicate n []) (List.replicate n []) :=
  have h : ∀ (i : Nat) (l : List Nat), (List.replicate n ([] : List Nat))[i]? = some l → l.length ≤ 0 ∧ ∀ x ∈ l, x < n := fun i l hl => by
    rw [List.getElem?_replicate] at hl
    split at hl
    · cases hl; exact ⟨Nat.le_refl _, by simp⟩
    · cases hl
  ⟨by simp, by simp, h, h⟩
theorem graph_rows (n : Nat) (hn : 0 < n) (es : List (Nat × Nat)) : Rows12 n es.length (graphB n es) (graphA n es) := by
  suffices h : ∀ (k : Nat), Rows12 n (es.take k).length (graphB n (es.take k)) (graphA n (es.take k)) by
    have := h es.length; rwa [List.take_length] at this
  intro k
  induction k with
  | zero => simpa [graphB, graphA, graphBA] using rows_new n
  | succ k ih =>
    by_cases hk : k < es.length
    · rw [take_snoc' es k _ (List.getElem?_eq_getElem hk), graphB_snoc, graphA_snoc, List.length_append]
      exact ih.join _ _ (Nat.mod_lt _ hn) (Nat.mod_lt _ hn)
    · rw [List.take_of_length_le (by omega)]
      rwa [List.take_of_length_le (by omega)] at ih
theorem Rows12.fewOf {n m : Nat} {b a : List (List Nat)} (h : Rows12 n m b a) (hn : n ≤ 1048575) : Few b := ⟨by rw [h.lb]; exact hn, fun i l hl x hx => by rw [h.lb]; exact (h.few i l hl).2 x hx⟩
/-- The ways, in memory: two small numbers each. -/
def Edges (w : World) (A : Option Addr) (es : List (Nat × Nat)) : Prop := ∀ (i : Nat) (x y : Nat), es[i]? = some (x, y) → x ≤ 255 ∧ y ≤ 255 ∧ ∃ g o, A = some ⟨g, o, none⟩ ∧ w.cell? ⟨g, o + i * 2, none⟩ = some (.int .u8 x) ∧ w.cell? ⟨g, o + i * 2 + 1, none⟩ = some (.int .u8 y)
theorem Edges.later {w w' : World} {A : Option Addr} {es : List (Nat × Nat)} (h : Edges w A es) (hb : Below w.heap.size w w') : Edges w' A es := by
  intro i x y hi
  obtain ⟨h1, h2, g, o, e, c1, c2⟩ := h i x y hi
  exact ⟨h1, h2, g, o, e, (hb.cell (p := ⟨g, o + i * 2, none⟩) (World.block_lt_of_cell? w _ c1)).trans c1, (hb.cell (p := ⟨g, o + i * 2 + 1, none⟩) (World.block_lt_of_cell? w _ c2)).trans c2⟩
theorem RowAt.lower {w : World} {base base' : Nat} {e : TypeId} {v : Value} {vs : List Value} (h : RowAt w base e v vs) (hb : base' ≤ base) : RowAt w base' e v vs := by
  rcases h with h | ⟨g, o, cap, cur, hv, hg, r⟩
  · exact .inl h
  · exact .inr ⟨g, o, cap, cur, hv, Nat.le_trans hb hg, r⟩
theorem Mat.lower {w : World} {base base' q : Nat} {vs : List Value} {f : List (List Nat)} (h : Mat w base q vs f) (hb : base' ≤ base) : Mat w base' q vs f :=
  ⟨h.blk, h.len, Nat.le_trans hb h.ge, fun i v l hv hl => (h.row i v l hv hl).lower hb, h.inj⟩
theorem Gr.lower {w : World} {base base' : Nat} {gv : Value} {b a : List (List Nat)} {S : Nat → Prop} (h : Gr w base gv b a S) (hb : base' ≤ base) : Gr w base' gv b a S := by
  obtain ⟨q, p, vs, us, e, h1, h2, r⟩ := h.ex
  exact ⟨q, p, vs, us, e, h1.lower hb, h2.lower hb, r⟩
/-- What Graph gives. -/
def SmallPost (w : World) (n : Nat) (es : List (Nat × Nat)) (e : Ending) (w' : World) : Prop :=
  ∃ gv q vs S, e = .returned (.tuple #[gv, .slice (some ⟨q, 0, none⟩) n n]) ∧ Gr w' w.heap.size gv (graphB n es) (graphA n es) S ∧ Mat w' w.heap.size q vs (graphB n es) ∧ (∀ g, MatB q vs g → ¬ S g) ∧ Below w.heap.size w w'
/-- While the graph is made: some edges are in; the boxes. -/
structure SG (w : World) (n : Nat) (es : List (Nat × Nat)) (j B : Nat) (gv : Value) (q : Nat) (wr : World) (vs : List Value) (S : Nat → Prop) : Prop where
  gr : Gr wr w.heap.size gv (graphB n (es.take j)) (graphA n (es.take j)) S
  mat : Mat wr w.heap.size q vs (graphB n (es.take j))
  apart : ∀ g, MatB q vs g → ¬ S g
  below : Below w.heap.size w wr
  b1 : wr.heap[w.heap.size + 1]? = some (.cells #[.slice none 0 0, .slice none 0 0] 28 (0, 0))
  b5 : wr.heap[B]? = some (.cells gv.cells 28 (0, 0))
  n1 : ¬ S (w.heap.size + 1) ∧ ¬ MatB q vs (w.heap.size + 1)
  n5 : ¬ S B ∧ ¬ MatB q vs B
theorem SG.later {w wr w' : World} {n : Nat} {es : List (Nat × Nat)} {j B : Nat} {gv : Value} {q : Nat} {vs : List Value} {S : Nat → Prop} (h : SG w n es j B gv q wr vs S) (hb : Below wr.heap.size wr w') : SG w n es j B gv q w' vs S :=
  ⟨h.gr.later hb, h.mat.later hb, h.apart, h.below.trans (hb.mono h.below.size), (hb.block _ (lt_blk h.b1)).trans h.b1, (hb.block _ (lt_blk h.b5)).trans h.b5, h.n1, h.n5⟩
theorem SG.next {w Z w3 W : World} {n : Nat} {es : List (Nat × Nat)} {j B : Nat} {gv : Value} {q : Nat} {vs vs' : List Value} {S S3 : Nat → Prop} (h : SG w n es j B gv q Z vs S)
    (hg : Gr w3 w.heap.size gv (graphB n (es.take (j + 1))) (graphA n (es.take (j + 1))) S3) (ho3 : Only S Z w3) (hs3 : ∀ g, S3 g → S g ∨ Z.heap.size ≤ g)
    (hm : Mat W w.heap.size q vs' (graphB n (es.take (j + 1)))) (ho : Only (MatB q vs) w3 W) (hn : ∀ g, MatB q vs' g → MatB q vs g ∨ w3.heap.size ≤ g) : SG w n es (j + 1) B gv q W vs' S3 := by
  have z3 := ho3.size
  have lq : ∀ g, MatB q vs g → g < Z.heap.size ∧ w.heap.size ≤ g := fun g hg => h.mat.lt hg
  have lS : ∀ g, S g → g < Z.heap.size ∧ w.heap.size ≤ g := fun g hg => h.gr.lt hg
  have e1 : ∀ g, S3 g → ¬ MatB q vs g := fun g h3 hq => (hs3 g h3).elim (fun e => h.apart g hq e) (fun e => by have := (lq g hq).1; omega)
  have l1 := lt_blk h.b1
  have l5 := lt_blk h.b5
  have nS : ∀ {x}, x < Z.heap.size → ¬ S x → ¬ S3 x := fun hx hns e => (hs3 _ e).elim hns (fun e => by omega)
  have nq : ∀ {x}, x < Z.heap.size → ¬ MatB q vs x → ¬ MatB q vs' x := fun hx hns e => (hn _ e).elim hns (fun e => by omega)
  refine ⟨hg.only ho (fun g h3 hq => e1 g h3 hq), hm, fun g hq h3 => ?_, ?_, ?_, ?_, ⟨nS l1 h.n1.1, nq l1 h.n1.2⟩, ⟨nS l5 h.n5.1, nq l5 h.n5.2⟩⟩
  · rcases hn g hq with e | e
    · exact e1 g h3 e
    · have := (hg.lt h3).1; omega
  · exact (h.below.trans (ho3.below h.below.size (fun k hk e => by have := (lS k e).2; omega))).trans (ho.below (Nat.le_trans h.below.size z3) (fun k hk e => by have := (lq k e).2; omega))
  · exact (ho.block _ (by omega) h.n1.2).trans ((ho3.block _ l1 h.n1.1).trans h.b1)
  · exact (ho.block _ (by omega) h.n5.2).trans ((ho3.block _ l5 h.n5.1).trans h.b5)
theorem modW {x n i : Nat} (hx : x ≤ 255) (hi : x % n = i) : (wrap64 (x : Int)).tmod (n : Int) = (i : Int) := by
  rw [show wrap64 (x : Int) = (x : Int) by simp only [wrap64]; omega, Int.tmod_eq_emod_of_nonneg (by omega), ← hi]
  omega
theorem below_drewN' (w : World) (n : Nat) : Below w.heap.size w (w.drewN n) := ⟨rfl, rfl, rfl, Nat.le_refl _, fun _ _ => rfl⟩
theorem getD_some {b : List (List Nat)} {i : Nat} (hi : i < b.length) : b[i]? = some (b.getD i []) := by
  rw [List.getD_eq_getElem?_getD, List.getElem?_eq_getElem hi]; rfl
theorem join_any {w : World} {base : Nat} {gv : Value} {b a : List (List Nat)} {S : Nat → Prop} (h : Gr w base gv b a S) (i j : Nat) (hi : i < b.length) (hj : j < b.length) (hn1 : (b.getD i []).length ≤ 1048575) (hn2 : (a.getD j []).length ≤ 1048575) :
    Calls Try.prog 27 #[gv, .int .i64 i, .int .i64 j] w (JoinPost w base gv (joinB b i j) (joinA b a i j) S) := by
  have hla : a.length = b.length := by obtain ⟨_, _, _, _, _, _, _, h, _⟩ := h.ex; exact h
  by_cases hin : j ∈ b.getD i []
  · refine (join_old h i j (b.getD i []) (getD_some hi) hj hin).mono ?_
    rintro e w' ⟨rfl, hb⟩
    unfold joinB joinA
    rw [if_pos hin, if_pos hin]
    exact ⟨rfl, S, h.later hb, (Only.of_below hb).mono (fun k hk e => absurd e (by omega)), fun _ h => .inl h⟩
  · have := join_new h i j (b.getD i []) (a.getD j []) (getD_some hi) (getD_some (by omega)) hin hn1 hn2
    unfold joinB joinA
    rw [if_neg hin, if_neg hin]
    exact this
set_option maxRecDepth 100000 in
set_option maxHeartbeats 4000000 in
theorem small_calls (N : Nat) (hN : N ≤ 255) (A : Option Addr) (c : Nat) (es : List (Nat × Nat)) (w : World) (hA : Edges w A es) (hc : es.length ≤ c) (hl : es.length ≤ 1000) :
    Calls Try.prog 18 #[.agg #[.int .u8 N, .slice A es.length c]] w (SmallPost w (1 + N % 12) es) := by
  have HA := Lib.hid (And.intro hA hc)
  clear hA hc
  obtain ⟨n, hn⟩ : ∃ n, 1 + N % 12 = n := ⟨_, rfl⟩
  rw [hn]
  have hmk := mk_rows n (by omega)
  have hn0 : 0 < n := by omega
  have hn12 : n ≤ 12 := by omega
  have e1 : IntKind.i64.wrap (1 + ((N % 12 : Nat) : Int)) = (n : Int) := by rw [IntKind.wrap_i64]; omega
  go_enter Try.func18, Try.ntmps18
  go_wp2_with fail
  rw [show (1 + (N : Int) % 12) = (n : Int) by omega]
  clear e1 hn
  generalize hX : World.alloc (World.alloc w _) _ = X at *
  have hx0 : X.heap[w.heap.size]? = some (.cells #[.int .u8 N, .slice A es.length c] 24 (0, 0)) := by
    rw [← hX]; exact (Below.heap_alloc (w.alloc _) _ _ (by simp)).trans (heap_alloc_new' w _)
  have hx1 : X.heap[w.heap.size + 1]? = some (.cells #[.slice none 0 0, .slice none 0 0] 28 (0, 0)) := by
    rw [← hX]; have := heap_alloc_new' (w.alloc (.cells #[.int .u8 N, .slice A es.length c] 24)) (.cells #[.slice none 0 0, .slice none 0 0] 28); rwa [World.size_alloc] at this
  have hbx : Below w.heap.size w X := hX ▸ ((Below.refl _ _).alloc (Nat.le_refl _) _).alloc (by simp) _
  have hz : X.heap.size = w.heap.size + 2 := by rw [← hX]; simp
  have HX := Lib.hid (And.intro hx0 (And.intro hx1 (And.intro hbx hz)))
  clear hX hx0 hx1 hbx hz
  refine (new_calls n (by omega) X).mono ?_
  rintro e w1 ⟨gv, rfl, ⟨S, hg⟩, hb1⟩
  obtain ⟨q1, p1, rfl⟩ := hg.form
  rw [List.length_replicate] at hg ⊢
  have hgX := fun g (h : S g) => (hg.lt h).2
  have HG := Lib.hid (And.intro (hg.lower HX.out.2.2.1.size) (And.intro (HX.out.2.2.1.trans (hb1.mono HX.out.2.2.1.size)) (And.intro ((hb1.block _ (lt_blk HX.out.1)).trans HX.out.1) (And.intro ((hb1.block _ (lt_blk HX.out.2.1)).trans HX.out.2.1) hgX))))
  have HZX := Lib.hid (And.intro HX.out.2.2.2 hb1.size)
  clear hg hb1 hgX HX
  have x1 := cell_of_blk _ _ _ _ _ HG.out.2.2.1 1
  have hzz : w.heap.size < w1.heap.size := lt_blk HG.out.2.2.1
  simp at x1
  go_wp2_with fail
  clear x1
  have HS0 : Hid (SG w n es 0 w1.heap.size (.agg #[.slice (some ⟨q1, 0, none⟩) n n, .slice (some ⟨p1, 0, none⟩) n n]) (w1.heap.size + 1) ((w1.alloc (.cells #[.slice (some ⟨q1, 0, none⟩) n n, .slice (some ⟨p1, 0, none⟩) n n] 28)).alloc (nilRows n)) (List.replicate n (.slice none 0 0)) S) := by
    have hb : Below w1.heap.size w1 ((w1.alloc (.cells #[.slice (some ⟨q1, 0, none⟩) n n, .slice (some ⟨p1, 0, none⟩) n n] 28)).alloc (nilRows n)) := ((Below.refl _ _).alloc (Nat.le_refl _) _).alloc (by simp) _
    have z1 := HZX.out
    have hS : ∀ g, S g → g < w1.heap.size := fun g hg => (HG.out.1.lt hg).1
    refine Lib.hid ⟨?_, ?_, fun g hg hs => ?_, below_two HG.out.2.1 hb, (hb.block _ (by omega)).trans HG.out.2.2.2.1, ?_, ⟨fun e => ?_, fun e => ?_⟩, ⟨fun e => ?_, fun e => ?_⟩⟩
    · rw [List.take_zero]; exact HG.out.1.later hb
    · rw [List.take_zero]
      refine Mat.new ?_ (by omega)
      have := heap_alloc_new' (w1.alloc (.cells #[.slice (some ⟨q1, 0, none⟩) n n, .slice (some ⟨p1, 0, none⟩) n n] 28)) (nilRows n)
      rwa [World.size_alloc] at this
    · have := matB_new hg; have := hS g hs; omega
    · exact (Below.heap_alloc (w1.alloc _) _ _ (by simp)).trans (heap_alloc_new' w1 _)
    · have := HG.out.2.2.2.2 _ e; omega
    · have := matB_new e; omega
    · have := hS _ e; omega
    · have := matB_new e; omega
  go_loopw [23] (fun i wr => ∃ j : Nat, i = .int .i64 (j : Int) ∧ Hid (j ≤ es.length ∧ ∃ vs S, SG w n es j w1.heap.size (.agg #[.slice (some ⟨q1, 0, none⟩) n n, .slice (some ⟨p1, 0, none⟩) n n]) (w1.heap.size + 1) wr vs S)) (fun i _ => es.length - (intOf i).toNat)
  case atStart => exact ⟨0, rfl, Lib.hid ⟨Nat.zero_le _, _, S, HS0.out⟩⟩
  case round =>
    clear HS0 HG
    obtain ⟨j, rfl, HI⟩ := hrel
    obtain ⟨hj0, vs, S, hsg⟩ := HI.out
    clear HI
    have HG := Lib.hid hsg
    clear hsg
    generalize hBq : w1.heap.size = B at *
    clear hBq
    by_cases hj : j < es.length
    · obtain ⟨⟨x, y⟩, hxy⟩ : ∃ e, es[j]? = some e := ⟨_, List.getElem?_eq_getElem hj⟩
      obtain ⟨hx, hy, g0, o0, rfl, c0, c1⟩ := (HA.out.1.later HG.out.below) j x y hxy
      have pp1 : ((j : Int) < (es.length : Int)) = True := eq_true (by omega)
      have hn1 : ((n : Int) == 0) = false := beq_eq_false_iff_ne.mpr (by omega)
      obtain ⟨i, hi⟩ : ∃ i, x % n = i := ⟨_, rfl⟩
      obtain ⟨k, hk⟩ : ∃ k, y % n = k := ⟨_, rfl⟩
      have mx := modW hx hi
      have my := modW hy hk
      have HMX := Lib.hid (And.intro mx my)
      have hin : i < n := hi ▸ Nat.mod_lt _ hn0
      have hkn : k < n := hk ▸ Nat.mod_lt _ hn0
      have hrw := graph_rows n hn0 (es.take j)
      have hsB : graphB n (es.take (j + 1)) = joinB (graphB n (es.take j)) i k := by rw [take_snoc' es j (x, y) hxy, graphB_snoc, hi, hk]
      have hsA : graphA n (es.take (j + 1)) = joinA (graphB n (es.take j)) (graphA n (es.take j)) i k := by rw [take_snoc' es j (x, y) hxy, graphA_snoc, hi, hk]
      have hlt : (es.take j).length ≤ 1000 := by rw [List.length_take]; omega
      have HJ := Lib.hid (And.intro hrw (And.intro hsB (And.intro hsA hlt)))
      clear hxy hi hk hrw hsB hsA hlt hx hy mx my
      go_wp2_with fail
      go_quiet (fail)
      rw [HMX.out.1, HMX.out.2]
      clear HMX hn1
      generalize hZ : World.drewN (World.alloc wr _) nq = Z at *
      have hbZ : Below wr.heap.size wr Z := hZ ▸ below_two ((Below.refl _ _).alloc (Nat.le_refl _) _) (below_drewN' _ nq)
      have hgZ := HG.out.later hbZ
      have HZ := Lib.hid hgZ
      clear hZ hbZ hgZ c0 c1 HG
      have hgr := HZ.out.gr
      have hmat := HZ.out.mat
      have hj1 := HJ.out
      generalize graphB n (es.take j) = b at *
      generalize graphA n (es.take j) = a at *
      obtain ⟨hrw, hsB, hsA, hlt⟩ := hj1
      have hb12 : (b.getD i []).length ≤ 1000 ∧ (a.getD k []).length ≤ 1000 := ⟨Nat.le_trans (hrw.few i _ (getD_some (by rw [hrw.lb]; exact hin))).1 hlt, Nat.le_trans (hrw.fewA k _ (getD_some (by rw [hrw.la]; exact hkn))).1 hlt⟩
      have HR := Lib.hid (And.intro hgr (And.intro hmat (And.intro hrw (And.intro hsB (And.intro hsA hb12)))))
      clear hgr hmat hrw hsB hsA hlt HJ hb12
      have x0 := cell_of_blk _ _ _ _ _ HZ.out.b5 0
      have x1 := cell_of_blk _ _ _ _ _ HZ.out.b5 1
      simp [Value.cells] at x0 x1
      go_wp2_with fail
      refine (join_any HR.out.1 i k (by rw [HR.out.2.2.1.lb]; exact hin) (by rw [HR.out.2.2.1.lb]; exact hkn) (by have := HR.out.2.2.2.2.2.1; omega) (by have := HR.out.2.2.2.2.2.2; omega)).mono ?_
      rintro e w3 ⟨rfl, S3, hg3, ho3, hs3⟩
      have hmlt : ∀ g, MatB (B + 1) vs g → g < Z.heap.size := fun g hg => (HR.out.2.1.lt hg).1
      have hm3 : Mat w3 w.heap.size (B + 1) vs b := HR.out.2.1.only ho3 (fun g hg e => HZ.out.apart g hg e)
      have H3 := Lib.hid (And.intro hg3 (And.intro ho3 (And.intro hs3 hm3)))
      obtain ⟨v, l, hv, hl, hr⟩ := hm3.get (i := i) (by rw [HR.out.2.2.1.lb]; exact hin)
      have hl' : l = b.getD i [] := Option.some.inj (hl.symm.trans (getD_some (by rw [HR.out.2.2.1.lb]; exact hin)))
      obtain ⟨A1, m1, c2, rfl⟩ : ∃ A m c, v = .slice A m c := (rowAt_slice hr).elim fun A h => h.elim fun c h => ⟨A, _, c, h.1⟩
      have hc := hm3.cell i
      rw [hv] at hc
      have HL := Lib.hid (And.intro hv (And.intro hl (And.intro hr hl')))
      have i0 : 0 ≤ (i : Int) := by omega
      have i1 : (i : Int) < (n : Int) := by omega
      clear hg3 ho3 hs3 hm3 hv hl hr hl' x0 x1 hmlt
      go_wp2_with fail
      refine (QI.contains (k : Int) (l := ivs l) (by rw [ivs_map]; exact HL.out.2.2.1)).mono ?_
      rintro e w4 ⟨rfl, rfl⟩
      by_cases hmem : k ∈ b.getD i []
      · have hdec : decide ((k : Int) ∈ ivs l) = true := decide_eq_true ((ivs_mem _ _).2 (by rw [HL.out.2.2.2]; exact hmem))
        rw [hdec]
        have HM := Lib.hid hmem
        clear hdec hmem
        go_wp2_with fail
        go_roundw
        case rel =>
          refine ⟨j + 1, by go_num, Lib.hid ⟨by omega, vs, S3, HZ.out.next ?_ H3.out.2.1 H3.out.2.2.1 ?_ (Only.refl _ _) (fun _ h => .inl h)⟩⟩
          · rw [HR.out.2.2.2.1, HR.out.2.2.2.2.1]; exact H3.out.1
          · rw [HR.out.2.2.2.1]; unfold joinB; rw [if_pos HM.out]; exact H3.out.2.2.2
        case measure => simp [intOf]; omega
      · have hdec : decide ((k : Int) ∈ ivs l) = false := decide_eq_false (fun h => hmem (by rw [← HL.out.2.2.2]; exact (ivs_mem _ _).1 h))
        rw [hdec]
        have HM := Lib.hid hmem
        obtain ⟨v', w5, hr, k1, k2, k3⟩ := row_append (w := w3.alloc (.cells #[.int .i64 (k : Int)] 3)) (base := w.heap.size) (v := .slice A1 m1 c2) (l := l) (HL.out.2.2.1.only (Only.alloc (fun _ => False) _ _) (fun _ _ e => e)) ⟨w3.heap.size, 0, none⟩ k (by
          have := cell_of_blk (w3.alloc (.cells #[.int .i64 (k : Int)] 3)) w3.heap.size _ _ _ (heap_alloc_new' w3 _) 0
          exact this) (by have h1 := HZ.out.below.size; have h2 := H3.out.2.1.size; simp; omega) (by rw [HL.out.2.2.2]; have := HR.out.2.2.2.2.2.1; omega)
        obtain ⟨A2, m2, c3, rfl⟩ : ∃ A m c, v' = .slice A m c := (rowAt_slice k1).elim fun A h => h.elim fun c h => ⟨A, _, c, h.1⟩
        have ho : Only (fun g => (Value.slice A1 m1 c2).ownBlock = some g) w3 w5 := (Only.alloc _ _ _).trans k2 (fun _ _ e => e)
        have hvq : (Value.slice A1 m1 c2).ownBlock ≠ some (B + 1) := HL.out.2.2.1.ne_blk H3.out.2.2.2.blk (by decide)
        have hqlt := lt_blk H3.out.2.2.2.blk
        have hc5 := (ho.cell (p := ⟨B + 1, i, none⟩) hqlt hvq).trans hc
        have hf5 := (ho.frozen (p := ⟨B + 1, i, none⟩) hqlt hvq).trans (H3.out.2.2.2.frozen i)
        have hset := H3.out.2.2.2.set (w1 := w5) HL.out.1 HL.out.2.1 ho k1 (k3.imp id (fun ⟨g, h1, h2⟩ => ⟨g, h1, by simp at h2; omega⟩))
        have HS := Lib.hid hset
        have HRN := Lib.hid hr
        clear hdec hmem hr k1 k2 k3 ho hvq hqlt hset
        go_wp2_with (first | (at_builtin; refine Lib.wpList_append_run _ rfl _ _ _ _ rfl _ _ rfl rfl _ _ HRN.out ?_) | fail)
        go_roundw
        case rel =>
          refine ⟨j + 1, by go_num, Lib.hid ⟨by omega, _, S3, HZ.out.next ?_ H3.out.2.1 H3.out.2.2.1 ?_ HS.out.2.1 HS.out.2.2⟩⟩
          · rw [HR.out.2.2.2.1, HR.out.2.2.2.2.1]; exact H3.out.1
          · rw [HR.out.2.2.2.1]; unfold joinB; rw [if_neg HM.out, ← HL.out.2.2.2]; exact HS.out.1
        case measure => simp [intOf]; omega
    · obtain rfl : j = es.length := by omega
      have pp1 : ((es.length : Int) < (es.length : Int)) = False := eq_false (by omega)
      have x0 := cell_of_blk _ _ _ _ _ HG.out.b5 0
      have x1 := cell_of_blk _ _ _ _ _ HG.out.b5 1
      have y0 := cell_of_blk _ _ _ _ _ HG.out.b1 0
      have y1 := cell_of_blk _ _ _ _ _ HG.out.b1 1
      have f0 : ∀ i, wr.frozen? ⟨w.heap.size + 1, i, none⟩ = false := fun i => by have := HG.out.b1; simp [World.frozen?, this]
      have f1 := f0 0
      have f2 := f0 1
      simp [Value.cells] at x0 x1 y0 y1
      clear f0
      go_wp2_with fail
      generalize hV : World.setCell (World.setCell wr _ _) _ _ = V
      have ho : Only (fun g => g = w.heap.size + 1) wr V := by rw [← hV]; exact (Only.setCell wr ⟨w.heap.size + 1, 0, none⟩ _).trans (Only.setCell _ ⟨w.heap.size + 1, 1, none⟩ _) (fun _ _ e => e)
      have hlt := lt_blk HG.out.b1
      have v0 : V.cell? ⟨w.heap.size + 1, 0, none⟩ = some (.slice (some ⟨q1, 0, none⟩) n n) := by
        have hb := HG.out.b1
        rw [← hV]; simp [World.setCell, World.cell?, Array.getElem?_modify, hb]
      have v1 : V.cell? ⟨w.heap.size + 1, 1, none⟩ = some (.slice (some ⟨p1, 0, none⟩) n n) := by
        have hb := HG.out.b1
        rw [← hV]; simp [World.setCell, World.cell?, Array.getElem?_modify, hb]
      have hfin : SmallPost w n es (.returned (.tuple #[.agg #[.slice (some ⟨q1, 0, none⟩) n n, .slice (some ⟨p1, 0, none⟩) n n], .slice (some ⟨B + 1, 0, none⟩) n n])) V := by
        have h1 := HG.out.gr
        have h2 := HG.out.mat
        rw [List.take_length] at h1 h2
        exact ⟨_, _, vs, S, rfl, h1.only ho (fun g hg e => HG.out.n1.1 (by rw [← show g = w.heap.size + 1 from e]; exact hg)), h2.only ho (fun g hg e => HG.out.n1.2 (by rw [← show g = w.heap.size + 1 from e]; exact hg)), HG.out.apart, HG.out.below.trans (ho.below HG.out.below.size (fun k hk e => by have e : k = w.heap.size + 1 := e; omega))⟩
      have HF := Lib.hid hfin
      clear hfin ho hV x0 x1 y0 y1 f1 f2 HG
      exact bodyPost_ret (v := .tuple #[.agg #[.slice (some ⟨q1, 0, none⟩) n n, .slice (some ⟨p1, 0, none⟩) n n], .slice (some ⟨B + 1, 0, none⟩) n n]) (by simp [results, Try.results18, go_sem, v0, v1]) rfl HF.out
end Go.Proofs.Ytnkbbjeepdjamaa
/- refineryref07.Reach: the walk. Conditions: few places. -/
namespace Go.Proofs.Ytnkbbjeepdjamaa
open Go.RowKit
/-- What Reach gives. -/
def RefPost (w : World) (b : List (List Nat)) (wo : Int) (e : Ending) (w' : World) : Prop :=
  ∃ q s, e = .returned (.slice (some ⟨q, 0, none⟩) b.length b.length) ∧ Seen w' q s ∧ s.length = b.length ∧ (∀ i, i < b.length → (tr s i = true ↔ WayO (nb b) wo i)) ∧ w.heap.size ≤ q ∧ Below w.heap.size w w'
theorem seen_tr {w : World} {q i n : Nat} {s : List Bool} (h : Seen w q s) (hn : s.length = n) (hi : i < n) : w.cell? ⟨q, i, none⟩ = some (.bool (tr s i)) := by
  have := h.cell i (by omega)
  rw [this]
  unfold tr
  rw [List.getD_eq_getElem?_getD, List.getD_eq_getElem?_getD, List.getElem?_eq_getElem (by omega)]; rfl
theorem tr_falses (n i : Nat) : tr (dst0 n).seen i = false := by
  unfold tr dst0
  rw [List.getD_eq_getElem?_getD, List.getElem?_replicate]
  split <;> rfl
theorem wayO_not0 {g : Nat → List Nat} {i : Nat} : ¬ WayO g 0 i := by
  intro h
  induction h with
  | zero h => exact h rfl
  | step _ _ _ ih => exact ih
/-- Beside the loops: the rows lie as they lay. -/
structure RL (w : World) (q1 : Nat) (vs : List Value) (base : Nat) (b : List (List Nat)) (q : Nat) (wr : World) (s : List Bool) : Prop where
  mat : Mat wr base q1 vs b
  seen : Seen wr q s
  ge : w.heap.size ≤ q
  below : Below w.heap.size w wr
  ne : ¬ MatB q1 vs q
theorem RL.set {w : World} {q1 : Nat} {vs : List Value} {base : Nat} {b : List (List Nat)} {q : Nat} {wr : World} {s : List Bool} (h : RL w q1 vs base b q wr s) (c : Nat) : RL w q1 vs base b q (wr.setCell ⟨q, c, none⟩ (.bool true)) (s.set c true) :=
  have ho := Only.setCell wr ⟨q, c, none⟩ (.bool true)
  ⟨h.mat.only ho (fun g hg e => h.ne (by rw [← show g = q from e]; exact hg)), h.seen.set c true, h.ge, h.below.trans (ho.below h.below.size (fun k hk e => by have e : k = q := e; have := h.ge; omega)), h.ne⟩
set_option maxRecDepth 100000 in
set_option maxHeartbeats 4000000 in
theorem ref_calls {w : World} {base q1 : Nat} {vs : List Value} {b : List (List Nat)} (h : Mat w base q1 vs b) (hf : Few b) (hrows : ∀ (i : Nat) (l : List Nat), b[i]? = some l → l.length ≤ 1048575) (wo : Int) :
    Calls Try.prog 55 #[.slice (some ⟨q1, 0, none⟩) b.length b.length, .int .i64 wo] w (RefPost w b wo) := by
  have hn := hf.n
  have hmk := mk_falses b.length (by omega)
  have H := Lib.hid (And.intro h (And.intro hf hrows))
  clear h hf hrows
  by_cases h0 : b.length = 0
  · have HN := Lib.hid h0
    have hmk0 := mk_falses 0 (by omega)
    simp only [Int.cast_ofNat_Int] at hmk0
    have hfin : ∀ X, X = w.alloc (falses 0) → RefPost w b wo (.returned (.slice (some ⟨w.heap.size, 0, none⟩) 0 0)) X := fun X hX => by
      unfold RefPost
      rw [HN.out, hX]
      exact ⟨_, (dst0 0).seen, rfl, falses_seen (heap_alloc_new' w _), rfl, fun i hi => by omega, Nat.le_refl _, (Below.refl _ _).alloc (Nat.le_refl _) _⟩
    rw [h0]
    have HF := Lib.hid hfin
    clear h0 hmk hfin
    go_enter Try.func55, Try.ntmps55
    go_wp2_with fail
    go_ret
    exact HF.out _ rfl
  · have hb0 : ((b.length : Int) == 0) = false := beq_eq_false_iff_ne.mpr (by omega)
    have hb1 : 0 < b.length := by omega
    obtain ⟨X, hX⟩ : ∃ X, w.alloc (falses b.length) = X := ⟨_, rfl⟩
    obtain ⟨hx, hbx, hz⟩ := boxed hX rfl
    have hse : Seen X w.heap.size (dst0 b.length).seen := falses_seen hx
    by_cases hw0 : wo = 0
    · subst hw0
      have hfin : RefPost w b 0 (.returned (.slice (some ⟨w.heap.size, 0, none⟩) b.length b.length)) (w.alloc (falses b.length)) := by
        rw [hX]
        exact ⟨_, _, rfl, hse, by simp [dst0], fun i _ => (by rw [tr_falses]; exact ⟨fun h => absurd h (by simp), fun h => absurd h wayO_not0⟩), Nat.le_refl _, hbx⟩
      have HF := Lib.hid hfin
      clear h0 hfin hse hx hbx hz hX
      go_enter Try.func55, Try.ntmps55
      go_wp2_with fail
      go_ret
      exact HF.out
    · have hw1 : (wo == 0) = false := beq_eq_false_iff_ne.mpr hw0
      have c0 := hse.cell 0 (by simp [dst0]; omega)
      have f0 := hse.frozen 0
      rw [dst0_seen, ← hX] at c0
      rw [← hX] at f0
      have hrs : RS (nb b) wo b.length ((dst0 b.length).seen.set 0 true) := by
        have hl : 0 < (dst0 b.length).seen.length := by simp [dst0]; omega
        refine ⟨by simp [dst0], fun i hi => ?_, by rw [tr_set hl]; simp⟩
        rw [tr_set hl, tr_falses] at hi
        simp at hi; subst hi
        exact .zero hw0
      have hrl : RL w q1 vs base b w.heap.size (X.setCell ⟨w.heap.size, 0, none⟩ (.bool true)) ((dst0 b.length).seen.set 0 true) := by
        have h1 : RL w q1 vs base b w.heap.size X (dst0 b.length).seen := ⟨H.out.1.later hbx, hse, Nat.le_refl _, hbx, fun e => by have := (H.out.1.lt e).1; omega⟩
        exact h1.set 0
      have hcnt : 1 ≤ cnt ((dst0 b.length).seen.set 0 true) := by
        have := (cnt_mono (s := List.replicate b.length false) (t := (dst0 b.length).seen.set 0 true) (by simp [dst0]) (fun i hi => by have := tr_falses b.length i; unfold dst0 at this; rw [this] at hi; cases hi)).2 ⟨0, hrs.zero, tr_falses b.length 0⟩
        omega
      have HS := Lib.hid (And.intro hrs (And.intro hrl (And.intro hcnt hX)))
      have hd0 : decide (¬ 0 < b.length) = false := decide_eq_false (by omega)
      rw [hd0] at c0
      clear h0 hse hx hbx hz hX hrs hrl hcnt hw0 hd0
      go_enter Try.func55, Try.ntmps55
      go_wp2_with fail
      rw [HS.out.2.2.2]
      generalize hY : World.setCell X _ _ = Y
      rw [hY] at HS
      clear c0 f0 hY
      go_loopw [6] (fun v wr => ∃ k : Nat, v = .int .i64 (k : Int) ∧ Hid (k ≤ b.length ∧ ∃ s, RL w q1 vs base b w.heap.size wr s ∧ RS (nb b) wo b.length s ∧ (Closed (nb b) wo s ∨ k + 1 ≤ cnt s))) (fun v _ => b.length - (intOf v).toNat)
      case atStart => exact ⟨0, rfl, Lib.hid ⟨Nat.zero_le _, _, HS.out.2.1, HS.out.1, .inr HS.out.2.2.1⟩⟩
      case round =>
        obtain ⟨k, rfl, HI⟩ := hrel
        obtain ⟨hk0, s0, hrl, hrs, hcl⟩ := HI.out
        have HK := Lib.hid (And.intro hrl (And.intro hrs hcl))
        clear HI hrl hrs hcl HS
        by_cases hk : k < b.length
        · have pp1 : ((k : Int) < (b.length : Int)) = True := eq_true (by omega)
          obtain ⟨wo1, rfl⟩ : ∃ wo1 : World, wo1 = wr := ⟨_, rfl⟩
          go_wp2_with fail
          clear pp1
          go_loopw [7] (fun v wi => ∃ i : Nat, v = .int .i64 (i : Int) ∧ Hid (i ≤ b.length ∧ ∃ s, RL w q1 vs base b w.heap.size wi s ∧ Rnd (nb b) wo b.length s0 s i 0)) (fun v _ => b.length - (intOf v).toNat)
          case atStart => exact ⟨0, rfl, Lib.hid ⟨Nat.zero_le _, s0, HK.out.1, Rnd.start HK.out.2.1⟩⟩
          case round =>
            obtain ⟨i, rfl, HI⟩ := hrel
            obtain ⟨hi0, s, hrl, hrn⟩ := HI.out
            clear HI
            by_cases hi : i < b.length
            · have pp1 : ((i : Int) < (b.length : Int)) = True := eq_true (by omega)
              have q0 : 0 ≤ (i : Int) := by omega
              have q2 : (i : Int) < (b.length : Int) := by omega
              have hsc := seen_tr hrl.seen hrn.rs.len hi
              by_cases ht : tr s i = true
              · rw [ht] at hsc
                obtain ⟨rv, l, hrv, hl, hr⟩ := hrl.mat.get hi
                obtain ⟨A, c, rfl, _, _, _⟩ := rowAt_slice hr
                rw [List.length_map] at hr hrv
                have hll : l.length ≤ 1048575 := H.out.2.2 i l hl
                have hnb : nb b i = l := by unfold nb; rw [List.getD_eq_getElem?_getD, hl]; rfl
                have HL := Lib.hid (And.intro hrl (And.intro hrn (And.intro ht (And.intro hrv (And.intro hl (And.intro hr hnb))))))
                have hc := hrl.mat.cell i
                rw [hrv] at hc
                obtain ⟨wo2, rfl⟩ : ∃ wo2 : World, wo2 = wr := ⟨_, rfl⟩
                clear hrl hrn ht hrv hl hr hnb
                go_wp2_with fail
                clear hc hsc pp1
                go_loopw [8] (fun v wi => ∃ j : Nat, v = .int .i64 (j : Int) ∧ Hid (j ≤ l.length ∧ ∃ s, RL w q1 vs base b w.heap.size wi s ∧ Rnd (nb b) wo b.length s0 s i j ∧ tr s i = true)) (fun v _ => l.length - (intOf v).toNat)
                case atStart => exact ⟨0, rfl, Lib.hid ⟨Nat.zero_le _, s, HL.out.1, HL.out.2.1, HL.out.2.2.1⟩⟩
                case round =>
                  obtain ⟨j, rfl, HI⟩ := hrel
                  obtain ⟨hj0, s', hrl, hrn, ht⟩ := HI.out
                  clear HI
                  have hc := hrl.mat.cell i
                  rw [HL.out.2.2.2.1] at hc
                  by_cases hj : j < l.length
                  · have pp1 : ((j : Int) < (l.length : Int)) = True := eq_true (by omega)
                    have pp2 : j < l.length := hj
                    obtain ⟨x, hx⟩ : ∃ x, l[j]? = some x := ⟨_, List.getElem?_eq_getElem hj⟩
                    have hxn : x < b.length := H.out.2.1.lt i l HL.out.2.2.2.2.1 x (List.mem_of_getElem? hx)
                    have hr := hrl.mat.row i _ l HL.out.2.2.2.1 HL.out.2.2.2.2.1
                    obtain ⟨g0, o0, rfl⟩ : ∃ g o, A = some ⟨g, o, none⟩ := by
                      rcases hr with ⟨h1, h2⟩ | ⟨g, o, cap, cur, h1, _⟩
                      · have : l = [] := by simpa using h2
                        subst this; simp at hj
                      · injection h1 with h1; exact ⟨g, o, h1⟩
                    have hcx := hr.cell j (iv x) (by rw [List.getElem?_map, hx]; rfl)
                    unfold iv at hcx
                    have q3 : 0 ≤ (x : Int) := by omega
                    have q4 : (x : Int) < (b.length : Int) := by omega
                    have hgx : (nb b i)[j]? = some x := by rw [HL.out.2.2.2.2.2.2]; exact hx
                    by_cases hxw : (x : Int) = wo
                    · have hne : ((x : Int) != wo) = false := by simp [hxw]
                      have HP := Lib.hid (And.intro hrl (And.intro (hrn.pass hgx hxw) ht))
                      clear hrl hrn ht hx hr hgx hxw hj
                      go_wp2_with fail
                      go_roundw
                      case rel => exact ⟨j + 1, by go_num, Lib.hid ⟨by omega, s', HP.out⟩⟩
                      case measure => simp [intOf]; omega
                    · have hne : ((x : Int) != wo) = true := bne_iff_ne.mpr hxw
                      have hcs := seen_tr hrl.seen hrn.rs.len hxn
                      have hfs := hrl.seen.frozen x
                      have hput := hrn.put ht hgx hxw hxn
                      have ht' : tr (s'.set x true) i = true := by rw [tr_set (by rw [hrn.rs.len]; exact hxn), ht]; simp
                      have HP := Lib.hid (And.intro (hrl.set x) (And.intro hput ht'))
                      clear hrl hrn ht hx hr hgx hxw hj hput ht'
                      go_wp2_with fail
                      go_roundw
                      case rel => exact ⟨j + 1, by go_num, Lib.hid ⟨by omega, _, HP.out⟩⟩
                      case measure => simp [intOf]; omega
                  · have pp1 : ((j : Int) < (l.length : Int)) = False := eq_false (by omega)
                    have pp2 : ¬ j < l.length := hj
                    have HP := Lib.hid (And.intro hrl (hrn.row (by rw [HL.out.2.2.2.2.2.2]; omega)))
                    clear hrl hrn ht hj
                    go_wp2_with fail
                    go_roundw
                    case rel => exact ⟨i + 1, by go_num, Lib.hid ⟨by omega, s', HP.out⟩⟩
                    case measure => simp [intOf]; omega
              · have ht' : tr s i = false := by simpa using ht
                rw [ht'] at hsc
                have HP := Lib.hid (And.intro hrl (hrn.skip ht'))
                clear hrl hrn ht ht'
                go_wp2_with fail
                go_roundw
                case rel => exact ⟨i + 1, by go_num, Lib.hid ⟨by omega, s, HP.out⟩⟩
                case measure => simp [intOf]; omega
            · have pp1 : ((i : Int) < (b.length : Int)) = False := eq_false (by omega)
              obtain rfl : i = b.length := by omega
              have hfin := hrn.fin HK.out.2.1.len k HK.out.2.2
              have HP := Lib.hid (And.intro hrl (And.intro hrn.rs hfin))
              clear hrl hrn hfin
              go_wp2_with fail
              go_roundw
              case rel => exact ⟨k + 1, by go_num, Lib.hid ⟨by omega, s, HP.out⟩⟩
              case measure => simp [intOf]; omega
        · have pp1 : ((k : Int) < (b.length : Int)) = False := eq_false (by omega)
          obtain rfl : k = b.length := by omega
          have hfin : RefPost w b wo (.returned (.slice (some ⟨w.heap.size, 0, none⟩) b.length b.length)) wr := ⟨_, s0, rfl, HK.out.1.seen, HK.out.2.1.len, fun i _ => HK.out.2.1.done HK.out.2.2 i, Nat.le_refl _, HK.out.1.below⟩
          have HF := Lib.hid hfin
          clear hfin HK
          go_wp2_with fail
          go_ret
          exact HF.out
end Go.Proofs.Ytnkbbjeepdjamaa
