/- Three calls that make sets, three boxes, in whatever order; then the sets are put in. No condition. -/
import Derived.Test.YtnkbbjeepdjamaaOrdInv
import Derived.Test.YtnkbbjeepdjamaaFrM
import Derived.Test.YtnkbbjeepdjamaaJoinI
namespace Go.Proofs.Ytnkbbjeepdjamaa
open Go.RowKit
/-- A set that a call has made. -/
def MadeB (B : Nat) (w : World) (C : List Int → Prop) (u : Value) : Prop := ∃ v O, u = .agg #[v] ∧ IsSetI w B v O ∧ C O
/-- A box of the region's own. -/
def BoxB (B : Nat) (w : World) (put : Prop) (u s : Value) : Prop := ∃ l x, u = .pointer (some ⟨l, 0, none⟩) ∧ w.heap[l]? = some (.cells #[x] 57 (0, 0)) ∧ B ≤ l ∧ (put → s = .agg #[x])
/-- Two sets' rows are apart. -/
def AptB (u u' : Value) : Prop := ∀ v v' g, u = .agg #[v] → u' = .agg #[v'] → v.ownBlock = some g → v'.ownBlock ≠ some g
/-- What is held between two operations. -/
structure RB (B : Nat) (W0 : World) (vf vx vy vz : Value) (Cx Cy Cz : List Int → Prop) (L : Nat → Bool) (u75 u76 u77 u78 u79 u80 u81 u82 u83 u17 u18 u19 : Value) (w : World) : Prop where
  r0 : L 0 = true → u75 = vf
  r1 : L 1 = true → u76 = vx
  c2 : L 2 = true → MadeB B w Cx u77
  r3 : L 3 = true → u78 = vf
  r4 : L 4 = true → u79 = vy
  c5 : L 5 = true → MadeB B w Cy u80
  r6 : L 6 = true → u81 = vf
  r7 : L 7 = true → u82 = vz
  c8 : L 8 = true → MadeB B w Cz u83
  b9 : L 9 = true → BoxB B w (L 12 = true) u17 u77
  b10 : L 10 = true → BoxB B w (L 13 = true) u18 u80
  b11 : L 11 = true → BoxB B w (L 14 = true) u19 u83
  n1 : L 9 = true → L 10 = true → u17 ≠ u18
  n2 : L 9 = true → L 11 = true → u17 ≠ u19
  n3 : L 10 = true → L 11 = true → u18 ≠ u19
  s1 : L 2 = true → L 5 = true → AptB u77 u80
  s2 : L 2 = true → L 8 = true → AptB u77 u83
  below : Below B W0 w
def ndB : List (List Nat) := [[], [], [0, 1], [], [], [3, 4, 2], [], [], [6, 7, 5], [], [], [], [9, 2, 8, 0, 1, 2, 4, 5, 7, 8, 9, 10, 11], [10, 5, 12, 0, 1, 2, 3, 4, 5, 7, 8, 9, 10, 11, 12], [11, 8, 13, 0, 1, 2, 3, 4, 5, 6, 7, 8, 9, 10, 11, 12, 13]]
section
variable {B : Nat} {W0 w w' : World} {vf vx vy vz : Value} {Cx Cy Cz : List Int → Prop} {L : Nat → Bool} {u75 u76 u77 u78 u79 u80 u81 u82 u83 u17 u18 u19 : Value}
theorem MadeB.only {C : List Int → Prop} {u : Value} {T : Nat → Prop} (h : MadeB B w C u) (ho : Only T w w') (hn : ∀ v g, u = .agg #[v] → v.ownBlock = some g → ¬ T g) : MadeB B w' C u := by
  obtain ⟨v, O, e, h1, h2⟩ := h
  exact ⟨v, O, e, h1.only ho (fun g hg => hn v g e hg), h2⟩
theorem MadeB.later {C : List Int → Prop} {u : Value} (h : MadeB B w C u) (hb : Below w.heap.size w w') : MadeB B w' C u := by
  obtain ⟨v, O, e, h1, h2⟩ := h
  exact ⟨v, O, e, h1.only (Only.of_below hb) (fun g hg e => by have := (isset_lt h1 hg).2; omega), h2⟩
theorem BoxB.later {p p' : Prop} {u s s' : Value} (h : BoxB B w p u s) (hb : Below w.heap.size w w') (hp : p' → p ∧ s' = s) : BoxB B w' p' u s' := by
  obtain ⟨l, x, e, h1, h2, h3⟩ := h
  exact ⟨l, x, e, (hb.block l (lt_blk h1)).trans h1, h2, fun k => by rw [(hp k).2]; exact h3 (hp k).1⟩
theorem BoxB.fresh (w : World) (p : Prop) (s : Value) (hB : B ≤ w.heap.size) (hp : ¬ p) : BoxB B (w.alloc (.cells #[.slice none 0 0] 57)) p (.pointer (some ⟨w.heap.size, 0, none⟩)) s :=
  ⟨w.heap.size, .slice none 0 0, rfl, heap_alloc_new' w _, hB, fun h => absurd h hp⟩
theorem BoxB.ne {p : Prop} {u s : Value} (h : BoxB B w p u s) : u ≠ .pointer (some ⟨w.heap.size, 0, none⟩) := by
  obtain ⟨l, x, rfl, h1, _⟩ := h
  intro e
  injection e with e; injection e with e; injection e with e
  have := lt_blk h1
  omega
theorem AptB.made {u : Value} {C : List Int → Prop} (h : MadeB B w C u) {v' : Value} {O : List Int} (h' : IsSetI w' w.heap.size v' O) : AptB u (.agg #[v']) := by
  obtain ⟨v, O', rfl, h1, _⟩ := h
  intro a b g e e' hg hg'
  have e1 : v = a := by simpa using e
  have e2 : v' = b := by simpa using e'
  subst e1 e2
  have := (isset_lt h1 hg).2
  have := (isset_lt h' hg').1
  omega
theorem notB (hc : ∀ k, L k = true → ∀ j ∈ ndB.getD k [], L j = true) {k j : Nat} (hj : L j = false) (hk : j ∈ ndB.getD k []) : ¬ L k = true := fun e => by rw [hc k e j hk] at hj; cases hj
variable (h : RB B W0 vf vx vy vz Cx Cy Cz L u75 u76 u77 u78 u79 u80 u81 u82 u83 u17 u18 u19 w)
include h
theorem RB.ld0 : RB B W0 vf vx vy vz Cx Cy Cz (fun j => if j = 0 then true else L j) vf u76 u77 u78 u79 u80 u81 u82 u83 u17 u18 u19 w := ⟨fun _ => rfl, h.r1, h.c2, h.r3, h.r4, h.c5, h.r6, h.r7, h.c8, h.b9, h.b10, h.b11, h.n1, h.n2, h.n3, h.s1, h.s2, h.below⟩
theorem RB.ld1 : RB B W0 vf vx vy vz Cx Cy Cz (fun j => if j = 1 then true else L j) u75 vx u77 u78 u79 u80 u81 u82 u83 u17 u18 u19 w := ⟨h.r0, fun _ => rfl, h.c2, h.r3, h.r4, h.c5, h.r6, h.r7, h.c8, h.b9, h.b10, h.b11, h.n1, h.n2, h.n3, h.s1, h.s2, h.below⟩
theorem RB.ld3 : RB B W0 vf vx vy vz Cx Cy Cz (fun j => if j = 3 then true else L j) u75 u76 u77 vf u79 u80 u81 u82 u83 u17 u18 u19 w := ⟨h.r0, h.r1, h.c2, fun _ => rfl, h.r4, h.c5, h.r6, h.r7, h.c8, h.b9, h.b10, h.b11, h.n1, h.n2, h.n3, h.s1, h.s2, h.below⟩
theorem RB.ld4 : RB B W0 vf vx vy vz Cx Cy Cz (fun j => if j = 4 then true else L j) u75 u76 u77 u78 vy u80 u81 u82 u83 u17 u18 u19 w := ⟨h.r0, h.r1, h.c2, h.r3, fun _ => rfl, h.c5, h.r6, h.r7, h.c8, h.b9, h.b10, h.b11, h.n1, h.n2, h.n3, h.s1, h.s2, h.below⟩
theorem RB.ld6 : RB B W0 vf vx vy vz Cx Cy Cz (fun j => if j = 6 then true else L j) u75 u76 u77 u78 u79 u80 vf u82 u83 u17 u18 u19 w := ⟨h.r0, h.r1, h.c2, h.r3, h.r4, h.c5, fun _ => rfl, h.r7, h.c8, h.b9, h.b10, h.b11, h.n1, h.n2, h.n3, h.s1, h.s2, h.below⟩
theorem RB.ld7 : RB B W0 vf vx vy vz Cx Cy Cz (fun j => if j = 7 then true else L j) u75 u76 u77 u78 u79 u80 u81 vz u83 u17 u18 u19 w := ⟨h.r0, h.r1, h.c2, h.r3, h.r4, h.c5, h.r6, fun _ => rfl, h.c8, h.b9, h.b10, h.b11, h.n1, h.n2, h.n3, h.s1, h.s2, h.below⟩
variable (hc : ∀ k, L k = true → ∀ j ∈ ndB.getD k [], L j = true)
include hc
theorem RB.call2 (hf : L 2 = false) (hBw : B ≤ w.heap.size) {v : Value} {O : List Int} (hs : IsSetI w' w.heap.size v O) (hO : Cx O) (hb : Below w.heap.size w w') :
    RB B W0 vf vx vy vz Cx Cy Cz (fun j => if j = 2 then true else L j) u75 u76 (.agg #[v]) u78 u79 u80 u81 u82 u83 u17 u18 u19 w' := by
  have k5 := notB hc (k := 5) hf (by decide)
  have k8 : ¬ L 8 = true := fun e => k5 (hc 8 e 5 (by decide))
  have k12 := notB hc (k := 12) hf (by decide)
  exact ⟨h.r0, h.r1, fun _ => ⟨v, O, rfl, ⟨own_base hs.own hBw, hs.srt⟩, hO⟩, h.r3, h.r4, fun e => absurd e k5, h.r6, h.r7, fun e => absurd e k8, fun e => (h.b9 e).later hb (fun k => absurd k k12), fun e => (h.b10 e).later hb (fun k => ⟨k, rfl⟩), fun e => (h.b11 e).later hb (fun k => ⟨k, rfl⟩), h.n1, h.n2, h.n3, fun _ e => absurd e k5, fun _ e => absurd e k8, h.below.trans (hb.mono hBw)⟩
theorem RB.call5 (hf : L 5 = false) (hBw : B ≤ w.heap.size) {v : Value} {O : List Int} (hs : IsSetI w' w.heap.size v O) (hO : Cy O) (hb : Below w.heap.size w w') :
    RB B W0 vf vx vy vz Cx Cy Cz (fun j => if j = 5 then true else L j) u75 u76 u77 u78 u79 (.agg #[v]) u81 u82 u83 u17 u18 u19 w' := by
  have k8 := notB hc (k := 8) hf (by decide)
  have k13 := notB hc (k := 13) hf (by decide)
  exact ⟨h.r0, h.r1, fun e => (h.c2 e).later hb, h.r3, h.r4, fun _ => ⟨v, O, rfl, ⟨own_base hs.own hBw, hs.srt⟩, hO⟩, h.r6, h.r7, fun e => absurd e k8, fun e => (h.b9 e).later hb (fun k => ⟨k, rfl⟩), fun e => (h.b10 e).later hb (fun k => absurd k k13), fun e => (h.b11 e).later hb (fun k => ⟨k, rfl⟩), h.n1, h.n2, h.n3, fun e _ => AptB.made (h.c2 e) hs, fun _ e => absurd e k8, h.below.trans (hb.mono hBw)⟩
theorem RB.call8 (hf : L 8 = false) (hBw : B ≤ w.heap.size) {v : Value} {O : List Int} (hs : IsSetI w' w.heap.size v O) (hO : Cz O) (hb : Below w.heap.size w w') :
    RB B W0 vf vx vy vz Cx Cy Cz (fun j => if j = 8 then true else L j) u75 u76 u77 u78 u79 u80 u81 u82 (.agg #[v]) u17 u18 u19 w' := by
  have k14 := notB hc (k := 14) hf (by decide)
  exact ⟨h.r0, h.r1, fun e => (h.c2 e).later hb, h.r3, h.r4, fun e => (h.c5 e).later hb, h.r6, h.r7, fun _ => ⟨v, O, rfl, ⟨own_base hs.own hBw, hs.srt⟩, hO⟩, fun e => (h.b9 e).later hb (fun k => ⟨k, rfl⟩), fun e => (h.b10 e).later hb (fun k => ⟨k, rfl⟩), fun e => (h.b11 e).later hb (fun k => absurd k k14), h.n1, h.n2, h.n3, h.s1, fun e _ => AptB.made (h.c2 e) hs, h.below.trans (hb.mono hBw)⟩
theorem RB.new9 (hf : L 9 = false) (hBw : B ≤ w.heap.size) :
    RB B W0 vf vx vy vz Cx Cy Cz (fun j => if j = 9 then true else L j) u75 u76 u77 u78 u79 u80 u81 u82 u83 (.pointer (some ⟨w.heap.size, 0, none⟩)) u18 u19 (w.alloc (.cells #[.slice none 0 0] 57)) := by
  have k := notB hc (k := 12) hf (by decide)
  have hb : Below w.heap.size w (w.alloc (.cells #[.slice none 0 0] 57)) := (Below.refl _ _).alloc (Nat.le_refl _) _
  exact ⟨h.r0, h.r1, fun e => (h.c2 e).later hb, h.r3, h.r4, fun e => (h.c5 e).later hb, h.r6, h.r7, fun e => (h.c8 e).later hb, fun _ => BoxB.fresh w _ _ hBw k, fun e => (h.b10 e).later hb (fun k => ⟨k, rfl⟩), fun e => (h.b11 e).later hb (fun k => ⟨k, rfl⟩), fun _ e => (h.b10 e).ne.symm, fun _ e => (h.b11 e).ne.symm, h.n3, h.s1, h.s2, h.below.trans (hb.mono hBw)⟩
theorem RB.new10 (hf : L 10 = false) (hBw : B ≤ w.heap.size) :
    RB B W0 vf vx vy vz Cx Cy Cz (fun j => if j = 10 then true else L j) u75 u76 u77 u78 u79 u80 u81 u82 u83 u17 (.pointer (some ⟨w.heap.size, 0, none⟩)) u19 (w.alloc (.cells #[.slice none 0 0] 57)) := by
  have k := notB hc (k := 13) hf (by decide)
  have hb : Below w.heap.size w (w.alloc (.cells #[.slice none 0 0] 57)) := (Below.refl _ _).alloc (Nat.le_refl _) _
  exact ⟨h.r0, h.r1, fun e => (h.c2 e).later hb, h.r3, h.r4, fun e => (h.c5 e).later hb, h.r6, h.r7, fun e => (h.c8 e).later hb, fun e => (h.b9 e).later hb (fun k => ⟨k, rfl⟩), fun _ => BoxB.fresh w _ _ hBw k, fun e => (h.b11 e).later hb (fun k => ⟨k, rfl⟩), fun e _ => (h.b9 e).ne, h.n2, fun _ e => (h.b11 e).ne.symm, h.s1, h.s2, h.below.trans (hb.mono hBw)⟩
theorem RB.new11 (hf : L 11 = false) (hBw : B ≤ w.heap.size) :
    RB B W0 vf vx vy vz Cx Cy Cz (fun j => if j = 11 then true else L j) u75 u76 u77 u78 u79 u80 u81 u82 u83 u17 u18 (.pointer (some ⟨w.heap.size, 0, none⟩)) (w.alloc (.cells #[.slice none 0 0] 57)) := by
  have k := notB hc (k := 14) hf (by decide)
  have hb : Below w.heap.size w (w.alloc (.cells #[.slice none 0 0] 57)) := (Below.refl _ _).alloc (Nat.le_refl _) _
  exact ⟨h.r0, h.r1, fun e => (h.c2 e).later hb, h.r3, h.r4, fun e => (h.c5 e).later hb, h.r6, h.r7, fun e => (h.c8 e).later hb, fun e => (h.b9 e).later hb (fun k => ⟨k, rfl⟩), fun e => (h.b10 e).later hb (fun k => ⟨k, rfl⟩), fun _ => BoxB.fresh w _ _ hBw k, h.n1, fun e _ => (h.b9 e).ne, fun e _ => (h.b10 e).ne, h.s1, h.s2, h.below.trans (hb.mono hBw)⟩
omit hc h
theorem MadeB.set {C : List Int → Prop} {u : Value} (h : MadeB B w C u) {l : Nat} {x y : Value} (hl : w.heap[l]? = some (.cells #[x] 57 (0, 0))) : MadeB B (w.setCell ⟨l, 0, none⟩ y) C u := by
  obtain ⟨v, O, e, h1, h2⟩ := h
  exact ⟨v, O, e, h1.only (Only.setCell w _ _) (fun g hg e => isset_ne h1 hl (by decide) (by rw [hg]; exact congrArg some e)), h2⟩
theorem BoxB.set {p : Prop} {u s : Value} (h : BoxB B w p u s) {l : Nat} {y : Value} (hne : u ≠ .pointer (some ⟨l, 0, none⟩)) : BoxB B (w.setCell ⟨l, 0, none⟩ y) p u s := by
  obtain ⟨l', x, rfl, h1, h2, h3⟩ := h
  refine ⟨l', x, rfl, ((Only.setCell w ⟨l, 0, none⟩ y).block l' (lt_blk h1) (fun e => hne ?_)).trans h1, h2, h3⟩
  have e : l' = l := e
  rw [e]
theorem BoxB.put {p' : Prop} {s : Value} {l : Nat} {x y : Value} (hl : w.heap[l]? = some (.cells #[x] 57 (0, 0))) (hB : B ≤ l) (hs : s = .agg #[y]) : BoxB B (w.setCell ⟨l, 0, none⟩ y) p' (.pointer (some ⟨l, 0, none⟩)) s :=
  ⟨l, y, rfl, by simp [World.setCell, Array.getElem?_modify, hl], hB, fun _ => hs⟩
include h
theorem RB.st12 {l : Nat} {x y : Value} (hl : w.heap[l]? = some (.cells #[x] 57 (0, 0))) (e17 : u17 = .pointer (some ⟨l, 0, none⟩)) (e77 : u77 = .agg #[y]) (hB : B ≤ l) (h9 : L 9 = true) :
    RB B W0 vf vx vy vz Cx Cy Cz (fun j => if j = 12 then true else L j) u75 u76 u77 u78 u79 u80 u81 u82 u83 u17 u18 u19 (w.setCell ⟨l, 0, none⟩ y) :=
  ⟨h.r0, h.r1, fun e => (h.c2 e).set hl, h.r3, h.r4, fun e => (h.c5 e).set hl, h.r6, h.r7, fun e => (h.c8 e).set hl, fun _ => by rw [e17]; exact BoxB.put hl hB e77, fun e => (h.b10 e).set (by rw [← e17]; exact (h.n1 h9 e).symm), fun e => (h.b11 e).set (by rw [← e17]; exact (h.n2 h9 e).symm), h.n1, h.n2, h.n3, h.s1, h.s2, h.below.setCell hB _⟩
theorem RB.st13 {l : Nat} {x y : Value} (hl : w.heap[l]? = some (.cells #[x] 57 (0, 0))) (e18 : u18 = .pointer (some ⟨l, 0, none⟩)) (e80 : u80 = .agg #[y]) (hB : B ≤ l) (h10 : L 10 = true) :
    RB B W0 vf vx vy vz Cx Cy Cz (fun j => if j = 13 then true else L j) u75 u76 u77 u78 u79 u80 u81 u82 u83 u17 u18 u19 (w.setCell ⟨l, 0, none⟩ y) :=
  ⟨h.r0, h.r1, fun e => (h.c2 e).set hl, h.r3, h.r4, fun e => (h.c5 e).set hl, h.r6, h.r7, fun e => (h.c8 e).set hl, fun e => (h.b9 e).set (by rw [← e18]; exact h.n1 e h10), fun _ => by rw [e18]; exact BoxB.put hl hB e80, fun e => (h.b11 e).set (by rw [← e18]; exact (h.n3 h10 e).symm), h.n1, h.n2, h.n3, h.s1, h.s2, h.below.setCell hB _⟩
theorem RB.st14 {l : Nat} {x y : Value} (hl : w.heap[l]? = some (.cells #[x] 57 (0, 0))) (e19 : u19 = .pointer (some ⟨l, 0, none⟩)) (e83 : u83 = .agg #[y]) (hB : B ≤ l) (h11 : L 11 = true) :
    RB B W0 vf vx vy vz Cx Cy Cz (fun j => if j = 14 then true else L j) u75 u76 u77 u78 u79 u80 u81 u82 u83 u17 u18 u19 (w.setCell ⟨l, 0, none⟩ y) :=
  ⟨h.r0, h.r1, fun e => (h.c2 e).set hl, h.r3, h.r4, fun e => (h.c5 e).set hl, h.r6, h.r7, fun e => (h.c8 e).set hl, fun e => (h.b9 e).set (by rw [← e19]; exact h.n2 e h11), fun e => (h.b10 e).set (by rw [← e19]; exact h.n3 e h11), fun _ => by rw [e19]; exact BoxB.put hl hB e83, h.n1, h.n2, h.n3, h.s1, h.s2, h.below.setCell hB _⟩
end
theorem RB.start {B : Nat} {W0 : World} {vf vx vy vz : Value} {Cx Cy Cz : List Int → Prop} (u75 u76 u77 u78 u79 u80 u81 u82 u83 u17 u18 u19 : Value) : RB B W0 vf vx vy vz Cx Cy Cz (fun _ => false) u75 u76 u77 u78 u79 u80 u81 u82 u83 u17 u18 u19 W0.drew := by
  constructor <;> first | exact (Below.refl _ _).drew | (intro e; cases e)
end Go.Proofs.Ytnkbbjeepdjamaa
