/- refinerylaw07.GraphOrders' own walk: what lies fixed, what it turns. Conditions: few places. -/
import Derived.Test.YtffnkbicbfjnpaaGLaw
import Derived.Lib.AppendZeros
namespace Go.Proofs.Ytffnkbicbfjnpaa
open Go.RowKit
namespace OW
/-- The blocks that stay. -/
def Fx (q : Nat) (vs : List Value) (b5 b4 b8 : Nat) (g : Nat) : Prop := MatB q vs g ∨ g = b5 ∨ g = b4 ∨ g = b8
/-- The closure. -/
def clo (b5 b6 b4 b8 b7 : Nat) : Value := .func (.func 44) #[] #[.pointer (some ⟨b5, 0, none⟩), .pointer (some ⟨b6, 0, none⟩), .pointer (some ⟨b4, 0, none⟩), .pointer (some ⟨b8, 0, none⟩), .pointer (some ⟨b7, 0, none⟩)]
/-- What lies at the start. -/
structure Base (w0 : World) (base q : Nat) (vs : List Value) (b : List (List Nat)) (sq b5 b6 b4 b8 b7 : Nat) : Prop where
  mat : Mat w0 base q vs b
  c5 : w0.cell? ⟨b5, 0, none⟩ = some (.slice (some ⟨sq, 0, none⟩) b.length b.length)
  c4 : w0.cell? ⟨b4, 0, none⟩ = some (.slice (some ⟨q, 0, none⟩) b.length b.length)
  c8 : w0.cell? ⟨b8, 0, none⟩ = some (clo b5 b6 b4 b8 b7)
  ge : base ≤ w0.heap.size
structure QS (w0 : World) (base q : Nat) (vs : List Value) (b : List (List Nat)) (sq b5 b6 b4 b8 b7 : Nat) (w : World) (st : DSt) (S6 S7 : Nat → Prop) : Prop where
  only : Only (fun g => ¬ Fx q vs b5 b4 b8 g) w0 w
  seen : Seen w sq st.seen
  len : st.seen.length = b.length
  pre : BoxRow w base b6 st.pre S6
  post : BoxRow w base b7 st.post.reverse S7
  ns : ¬ Fx q vs b5 b4 b8 sq
  n6 : ∀ g, S6 g → ¬ Fx q vs b5 b4 b8 g ∧ g ≠ sq
  n7 : ∀ g, S7 g → ¬ Fx q vs b5 b4 b8 g ∧ g ≠ sq ∧ ¬ S6 g
section
variable {w0 : World} {base q : Nat} {vs : List Value} {b : List (List Nat)} {sq b5 b6 b4 b8 b7 : Nat} {w w' : World} {st : DSt} {S6 S7 : Nat → Prop}
theorem Base.lt (h : Base w0 base q vs b sq b5 b6 b4 b8 b7) {g : Nat} (hg : Fx q vs b5 b4 b8 g) : g < w0.heap.size := by
  rcases hg with hg | rfl | rfl | rfl
  · exact (h.mat.lt hg).1
  · exact World.block_lt_of_cell? w0 _ h.c5
  · exact World.block_lt_of_cell? w0 _ h.c4
  · exact World.block_lt_of_cell? w0 _ h.c8
theorem Base.at_ (h : Base w0 base q vs b sq b5 b6 b4 b8 b7) (ho : Only (fun g => ¬ Fx q vs b5 b4 b8 g) w0 w) :
    Mat w base q vs b ∧ w.cell? ⟨b5, 0, none⟩ = some (.slice (some ⟨sq, 0, none⟩) b.length b.length) ∧ w.cell? ⟨b4, 0, none⟩ = some (.slice (some ⟨q, 0, none⟩) b.length b.length) ∧ w.cell? ⟨b8, 0, none⟩ = some (clo b5 b6 b4 b8 b7) :=
  ⟨h.mat.only ho (fun _ hg e => e (.inl hg)), (ho.cell (p := ⟨b5, 0, none⟩) (h.lt (.inr (.inl rfl))) (fun e => e (.inr (.inl rfl)))).trans h.c5,
    (ho.cell (p := ⟨b4, 0, none⟩) (h.lt (.inr (.inr (.inl rfl)))) (fun e => e (.inr (.inr (.inl rfl))))).trans h.c4, (ho.cell (p := ⟨b8, 0, none⟩) (h.lt (.inr (.inr (.inr rfl)))) (fun e => e (.inr (.inr (.inr rfl))))).trans h.c8⟩
/-- A step. -/
def Stp (sq : Nat) (w : World) (S6 S7 : Nat → Prop) (w' : World) (S6' S7' : Nat → Prop) : Prop := Only (fun x => x = sq ∨ S6 x ∨ S7 x) w w' ∧ (∀ g, S6' g → S6 g ∨ w.heap.size ≤ g) ∧ (∀ g, S7' g → S7 g ∨ w.heap.size ≤ g)
theorem Stp.refl (sq : Nat) (w : World) (S6 S7 : Nat → Prop) : Stp sq w S6 S7 w S6 S7 := ⟨Only.refl _ _, fun _ h => .inl h, fun _ h => .inl h⟩
theorem Stp.trans {w1 w2 : World} {T6 T7 U6 U7 : Nat → Prop} (h : Stp sq w S6 S7 w1 T6 T7) (k : Stp sq w1 T6 T7 w2 U6 U7) : Stp sq w S6 S7 w2 U6 U7 :=
  ⟨h.1.trans k.1 (fun x hx e => by
    rcases e with e | e | e
    · exact .inl e
    · exact .inr (.inl ((h.2.1 x e).resolve_right (by omega)))
    · exact .inr (.inr ((h.2.2 x e).resolve_right (by omega)))),
   fun g hg => (k.2.1 g hg).elim (fun e => h.2.1 g e) (fun e => .inr (Nat.le_trans h.1.size e)), fun g hg => (k.2.2 g hg).elim (fun e => h.2.2 g e) (fun e => .inr (Nat.le_trans h.1.size e))⟩
/-- A place is met: it is seen, it stands behind those that were met. -/
theorem QS.enter (hB : Base w0 base q vs b sq b5 b6 b4 b8 b7) (h : QS w0 base q vs b sq b5 b6 b4 b8 b7 w st S6 S7) (v : Nat) {T6 : Nat → Prop} (hp : BoxRow w' base b6 (st.pre ++ [v]) T6) (ho : Only S6 (w.setCell ⟨sq, v, none⟩ (.bool true)) w') (hs : ∀ g, T6 g → S6 g ∨ w.heap.size ≤ g) :
    QS w0 base q vs b sq b5 b6 b4 b8 b7 w' (st.enter v) T6 S7 ∧ Stp sq w S6 S7 w' T6 S7 := by
  have hq : sq < w.heap.size := lt_blk h.seen
  have o1 := Only.setCell w ⟨sq, v, none⟩ (.bool true)
  have o2 : Only (fun x => x = sq ∨ S6 x) w w' := (o1.mono (fun k _ e => (.inl e : k = sq ∨ S6 k))).trans ho (fun k _ e => .inr e)
  have hlt : ∀ g, Fx q vs b5 b4 b8 g → g < w.heap.size := fun g hg => Nat.lt_of_lt_of_le (hB.lt hg) h.only.size
  refine ⟨⟨h.only.trans o2 (fun k _ e => ?_), ?_, by simp [DSt.enter, h.len], hp, ?_, h.ns, fun g hg => ?_, fun g hg => ?_⟩, o2.mono (fun k _ e => e.elim .inl (fun e => .inr (.inl e))), hs, fun _ h => .inl h⟩
  · rcases e with e | e
    · rw [e]; exact h.ns
    · exact (h.n6 k e).1
  · exact (h.seen.set v true).only ho (fun e => (h.n6 _ e).2 rfl)
  · exact h.post.only o2 (fun g hg e => e.elim (h.n7 g hg).2.1 (h.n7 g hg).2.2)
  · rcases hs g hg with e | e
    · exact h.n6 g e
    · exact ⟨fun hf => by have := hlt g hf; omega, by omega⟩
  · refine ⟨(h.n7 g hg).1, (h.n7 g hg).2.1, fun e => ?_⟩
    rcases hs g e with e | e
    · exact (h.n7 g hg).2.2 e
    · have := (h.post.lt hg).1; omega
/-- A place is left: it stands ahead of those that were left. -/
theorem QS.leave (hB : Base w0 base q vs b sq b5 b6 b4 b8 b7) (h : QS w0 base q vs b sq b5 b6 b4 b8 b7 w st S6 S7) (v : Nat) {T7 : Nat → Prop} (hp : BoxRow w' base b7 (v :: st.post.reverse) T7) (ho : Only S7 w w') (hs : ∀ g, T7 g → S7 g ∨ w.heap.size ≤ g) :
    QS w0 base q vs b sq b5 b6 b4 b8 b7 w' (st.leave v) S6 T7 ∧ Stp sq w S6 S7 w' S6 T7 := by
  have hq : sq < w.heap.size := lt_blk h.seen
  have hlt : ∀ g, Fx q vs b5 b4 b8 g → g < w.heap.size := fun g hg => Nat.lt_of_lt_of_le (hB.lt hg) h.only.size
  refine ⟨⟨h.only.trans ho (fun k _ e => (h.n7 k e).1), h.seen.only ho (fun e => (h.n7 _ e).2.1 rfl), h.len, h.pre.only ho (fun g hg e => (h.n7 g e).2.2 hg), by simpa [DSt.leave] using hp, h.ns, h.n6, fun g hg => ?_⟩, ho.mono (fun k _ e => .inr (.inr e)), fun _ h => .inl h, hs⟩
  rcases hs g hg with e | e
  · exact h.n7 g e
  · exact ⟨fun hf => by have := hlt g hf; omega, by omega, fun e2 => by have := (h.pre.lt e2).1; omega⟩
end
def OPost (w0 : World) (base q : Nat) (vs : List Value) (b : List (List Nat)) (sq b5 b6 b4 b8 b7 : Nat) (w : World) (S6 S7 : Nat → Prop) (st : DSt) (w' : World) : Prop :=
  ∃ T6 T7, QS w0 base q vs b sq b5 b6 b4 b8 b7 w' st T6 T7 ∧ Stp sq w S6 S7 w' T6 T7
def OkW (w0 : World) (base q : Nat) (vs : List Value) (b : List (List Nat)) (sq b5 b6 b4 b8 b7 : Nat) (k : Nat) : Prop :=
  ∀ (v : Nat) (st : DSt) (w : World) (S6 S7 : Nat → Prop), QS w0 base q vs b sq b5 b6 b4 b8 b7 w st S6 S7 → st.seen.getD v true = false → unseen st.seen ≤ k → st.pre.length + unseen st.seen ≤ b.length → st.post.length + unseen st.seen ≤ b.length →
    Calls Try.prog 44 #[.int .i64 v, .pointer (some ⟨b5, 0, none⟩), .pointer (some ⟨b6, 0, none⟩), .pointer (some ⟨b4, 0, none⟩), .pointer (some ⟨b8, 0, none⟩), .pointer (some ⟨b7, 0, none⟩)] w
      fun e w' => e = .returned (.tuple #[]) ∧ OPost w0 base q vs b sq b5 b6 b4 b8 b7 w S6 S7 (dfs (nb b) k v st) w'
/-- A row ahead of which a number is put. -/
theorem row_cons {w : World} {base : Nat} {A : Option Addr} {m c x : Nat} {l : List Nat} (h : RowAt w base 3 (.slice A m c) (l.map iv)) (hl : l.length ≤ 1048576) (hb : base ≤ w.heap.size) :
    ∃ v' w', (Builtin.append_ #[40, 40] 40 #[.slice (some ⟨w.heap.size, 0, none⟩) 1 1, .slice A m c]).run Try.prog (w.alloc (.cells #[.int .i64 (x : Int)] 3)) = .ok v' w' ∧ RowAt w' base 3 v' ((x :: l).map iv) ∧ Below w.heap.size w w' ∧ ∃ g, v'.ownBlock = some g ∧ w.heap.size ≤ g := by
  obtain ⟨i0, hi0, hz0, hz1, hz2⟩ := info_parts infoI
  have hown : (w.alloc (.cells #[.int .i64 (x : Int)] 3)).ownsRow w.heap.size 3 1 (.slice (some ⟨w.heap.size, 0, none⟩) 1 1) 1 [iv x] :=
    ⟨rfl, .inr ⟨w.heap.size, 1, _, rfl, Nat.le_refl _, heap_alloc_new' w _, Nat.le_refl _, by decide, rfl, rfl⟩⟩
  have hr1 := h.only (Only.alloc (fun _ => False) w (.cells #[.int .i64 (x : Int)] 3)) (fun _ _ e => e)
  obtain ⟨hm, hrd⟩ := rowAt_read hr1
  rw [List.length_map] at hm
  obtain ⟨v', w', hr, r1, r2⟩ := append_read (P := Try.prog) 40 40 3 i0 (.int .i64 0) 8 Try.underlying40 hi0 hz0 hz1 hz2 rfl hown A c (l.map iv) hrd (one_iv l) (by simp) (by unfold maxLen; simp; omega) (by simp; omega)
  simp only [List.length_map] at hr r1
  rw [← hm] at hr r1
  refine ⟨v', w', hr, RowAt.of_own (own_base (by simpa using r1) hb), ((Only.alloc (fun k => k = w.heap.size) w _).trans (Only.grown r2) (fun k hk e => by simp [Value.ownBlock] at e; exact e.symm)).below (Nat.le_refl _) (fun k hk e => by omega), ?_⟩
  rcases own_forms r1 with ⟨_, h2, _⟩ | ⟨g, cap, cur, rfl, hb', _⟩
  · omega
  · exact ⟨g, rfl, hb'⟩
/-- Another row in a box. -/
theorem box_put {w w5 : World} {base B : Nat} {l l' : List Nat} {S : Nat → Prop} {v' : Value} (h : BoxRow w base B l S) (hb : Below w.heap.size w w5) (hr : RowAt w5 base 3 v' (l'.map iv)) (hv : ∃ g, v'.ownBlock = some g ∧ w.heap.size ≤ g) :
    ∃ T, BoxRow (w5.setCell ⟨B, 0, none⟩ v') base B l' T ∧ Only S w (w5.setCell ⟨B, 0, none⟩ v') ∧ ∀ g, T g → S g ∨ w.heap.size ≤ g := by
  obtain ⟨v, h1, h2, h3, h4⟩ := h.ex
  have h5 := (hb.block B (lt_blk h1)).trans h1
  have hv'B : v'.ownBlock ≠ some B := hr.ne_blk h5 (by decide)
  have hs := Only.setCell w5 ⟨B, 0, none⟩ v'
  refine ⟨fun g => g = B ∨ v'.ownBlock = some g, ⟨v', ?_, hr.only hs (fun g hg e => hv'B (by rw [hg]; exact congrArg some e)), h3, fun _ => Iff.rfl⟩, ((Only.of_below hb).mono (fun k hk e => absurd e (by omega))).trans hs (fun k _ e => (h4 k).2 (.inl e)), fun g hg => ?_⟩
  · simp [World.setCell, Array.getElem?_modify, h5]
  · rcases hg with rfl | hg
    · exact .inl ((h4 g).2 (.inl rfl))
    · obtain ⟨g', k1, k2⟩ := hv
      rw [k1] at hg; injection hg with hg; exact .inr (by omega)
end OW
end Go.Proofs.Ytffnkbicbfjnpaa
