/- refinerylaw13.Alike: what it answers of a program and itself. Conditions: at most 1024 steps; a program of at most 1023 instructions, phi-less. -/
import Derived.Test.YtffnkbicbfjnpaaROut
import Derived.Test.YtffnkbicbfjnpaaRRunGood
import Derived.StillTailTactics
import Derived.BigQuiet
import Derived.Deep.QuietTactic
namespace Go.Proofs.Ytffnkbicbfjnpaa
open Go.RowKit Go.Proofs.Ytffnkbicbfjnpaa.PRunFuel
open Go.Proofs.YtffnkbicbfjnpaaW.PrintWords (ReadsInt rd Kd)
theorem cell_low {w wx : World} {a : Addr} {v : Value} (hb : Below w.heap.size w wx) (h : w.cell? a = some v) : wx.cell? a = some v :=
  (hb.cell (World.block_lt_of_cell? _ _ h)).trans h
theorem alloc_size (w : World) (o : Obj) : (w.alloc o).heap.size = w.heap.size + 1 := Array.size_push ..
/-- A program that may be run. -/
structure Runs (p : List S31) : Prop where
  count : countP p ≤ 1023
  bare : ∀ b ∈ p, b.f1 = []
def sameO (a b : Out) : Bool := decide (a.fin = b.fin ∧ a.val = b.val ∧ a.trace = b.trace)
theorem sameO_calls (o1 o2 : Out) (v1 v2 : Value) (V : World) (h1 : OutR o1 V v1) (h2 : OutR o2 V v2) (hl : o1.trace.length ≤ 1023) :
    Calls Try.prog 33 #[v1, v2] V fun e W' => e = .returned (.bool (sameO o1 o2)) ∧ Below V.heap.size V W' := same_calls o1 o2 v1 v2 V h1 h2 (by omega)
theorem mul_wrap (a b : Nat) (ha : a ≤ 1023) (hb : b ≤ 1023) : IntKind.i64.wrap (IntKind.i64.wrap ((a : Int) + 1) * IntKind.i64.wrap ((b : Int) + 1)) = (((a + 1) * (b + 1) : Nat) : Int) ∧ (a + 1) * (b + 1) ≤ 1048576 := by
  have h : (a + 1) * (b + 1) ≤ 1024 * 1024 := Nat.mul_le_mul (by omega) (by omega)
  have e1 : IntKind.i64.wrap ((a : Int) + 1) = ((a + 1 : Nat) : Int) := by rw [IntKind.wrap_i64]; omega
  have e2 : IntKind.i64.wrap ((b : Int) + 1) = ((b + 1 : Nat) : Int) := by rw [IntKind.wrap_i64]; omega
  rw [e1, e2, ← Int.natCast_mul, IntKind.wrap_i64]
  generalize (a + 1) * (b + 1) = k at *
  omega
noncomputable def alikeB (p q : List S31) (inp : List Int) (n : Nat) : Bool :=
  if (runP p inp n).fin ≠ 2 ∧ sameO (runP p inp n) (runP q inp (((runP p inp n).steps + 1) * (countP q + 1))) = false then false
  else decide ((runP q inp n).fin = 2) || sameO (runP q inp n) (runP p inp (((runP q inp n).steps + 1) * (countP p + 1)))
theorem lt_blk' {w : World} {g : Nat} {o : Obj} (h : w.heap[g]? = some o) : g < w.heap.size := (Array.getElem?_eq_some_iff.1 h).1
/-- The worlds ahead: both programs boxed. -/
structure Boxed (W X : World) (p q : List S31) (A1 A2 : Option Addr) (c1 c2 : Nat) (Ai : Option Addr) (inp : List Int) : Prop where
  b1 : X.heap[W.heap.size]? = some (.cells #[.slice A1 p.length c1] 57 (0, 0))
  b2 : X.heap[W.heap.size + 1]? = some (.cells #[.slice A2 q.length c2] 57 (0, 0))
  r1 : PrgR p X (.agg #[.slice A1 p.length c1])
  r2 : PrgR q X (.agg #[.slice A2 q.length c2])
  inp : ReadsInt X .i64 Ai inp.length inp
  below : Below W.heap.size W X
theorem Boxed.later {W X X' : World} {p q : List S31} {A1 A2 : Option Addr} {c1 c2 : Nat} {Ai : Option Addr} {inp : List Int} (h : Boxed W X p q A1 A2 c1 c2 Ai inp) (hb : Below X.heap.size X X') : Boxed W X' p q A1 A2 c1 c2 Ai inp :=
  ⟨(hb.block _ (lt_blk' h.b1)).trans h.b1, (hb.block _ (lt_blk' h.b2)).trans h.b2, h.r1.later hb, h.r2.later hb, h.inp.below hb, below_two h.below hb⟩
/-- What holds while an outcome lies at block g, a program at block k. -/
def AlS (W : World) (p q : List S31) (A1 A2 : Option Addr) (c1 c2 : Nat) (Ai : Option Addr) (inp : List Int) (o : Out) (pv : Value) (A : Option Addr) (c g k : Nat) (X : World) : Prop :=
  X.cell? ⟨g, 0, none⟩ = some (.int .u8 o.fin) ∧ X.cell? ⟨g, 1, none⟩ = some (.int .i64 o.val) ∧ X.cell? ⟨g, 2, none⟩ = some (.slice A o.trace.length c) ∧ X.cell? ⟨g, 3, none⟩ = some (.int .i64 o.steps) ∧ X.cell? ⟨k, 0, none⟩ = some pv ∧
    Hid (Boxed W X p q A1 A2 c1 c2 Ai inp ∧ OutR o X (ov o (.slice A o.trace.length c)))
section
variable {W : World} {p q : List S31} {A1 A2 : Option Addr} {c1 c2 : Nat} {Ai : Option Addr} {inp : List Int} {o : Out} {pv : Value} {A : Option Addr} {c g k : Nat} {X : World}
theorem AlS.later {X' : World} (h : AlS W p q A1 A2 c1 c2 Ai inp o pv A c g k X) (hb : Below X.heap.size X X') : AlS W p q A1 A2 c1 c2 Ai inp o pv A c g k X' := by
  obtain ⟨h0, h1, h2, h3, h4, h5⟩ := h
  exact ⟨cell_low hb h0, cell_low hb h1, cell_low hb h2, cell_low hb h3, cell_low hb h4, Lib.hid ⟨h5.out.1.later hb, h5.out.2.later hb⟩⟩
theorem AlS.boxed (h : AlS W p q A1 A2 c1 c2 Ai inp o pv A c g k X) : Boxed W X p q A1 A2 c1 c2 Ai inp := h.2.2.2.2.2.out.1
theorem AlS.out (h : AlS W p q A1 A2 c1 c2 Ai inp o pv A c g k X) : OutR o X (ov o (.slice A o.trace.length c)) := h.2.2.2.2.2.out.2
end
set_option linter.unusedSimpArgs false in
set_option maxRecDepth 100000 in
set_option maxHeartbeats 4000000 in
theorem alike_calls (p q : List S31) (v1 v2 : Value) (Ai : Option Addr) (ci : Nat) (inp : List Int) (n : Nat) (W : World) (hn : n ≤ 1023) (hp : PrgR p W v1) (hq : PrgR q W v2) (rp : Runs p) (rq : Runs q) (hin : ReadsInt W .i64 Ai inp.length inp) (hci : inp.length ≤ ci) :
    Calls Try.prog 34 #[v1, v2, .slice Ai inp.length ci, .int .i64 n] W fun e W' => e = .returned (.bool (alikeB p q inp n)) ∧ Below W.heap.size W W' := by
  obtain ⟨A1, c1, rfl, hc1, hA1⟩ := hp
  obtain ⟨A2, c2, rfl, hc2, hA2⟩ := hq
  have HP := Lib.hid (And.intro hA1 (And.intro hc1 (And.intro hA2 (And.intro hc2 (And.intro hin hci)))))
  clear hA1 hc1 hA2 hc2 hin hci
  go_enter Try.func34, Try.ntmps34
  go_wp2_with fail
  generalize hX : World.alloc (World.alloc W _) _ = X
  have hX1 : Boxed W X p q A1 A2 c1 c2 Ai inp := by
    have hb1 : Below W.heap.size W (World.alloc W (.cells #[.slice A1 p.length c1] 57)) := (Below.refl _ _).alloc (Nat.le_refl _) _
    have hbX : Below W.heap.size W X := hX ▸ hb1.alloc hb1.size _
    have e1 : X.heap[W.heap.size]? = some (.cells #[.slice A1 p.length c1] 57 (0, 0)) := by
      rw [← hX]
      refine (Below.heap_alloc _ _ _ (by rw [alloc_size]; omega)).trans Array.getElem?_push_size
    have e2 : X.heap[W.heap.size + 1]? = some (.cells #[.slice A2 q.length c2] 57 (0, 0)) := by
      rw [← hX]
      have := heap_alloc_new (World.alloc W (.cells #[.slice A1 p.length c1] 57)) (.cells #[.slice A2 q.length c2] 57)
      rwa [alloc_size] at this
    exact ⟨e1, e2, PrgR.later ⟨A1, c1, rfl, HP.out.2.1, HP.out.1⟩ hbX, PrgR.later ⟨A2, c2, rfl, HP.out.2.2.2.1, HP.out.2.2.1⟩ hbX, HP.out.2.2.2.2.1.below hbX, hbX⟩
  have HX := Lib.hid hX1
  have hci := HP.out.2.2.2.2.2
  clear hX hX1
  refine (runR_calls p _ Ai ci inp n X (by omega) HX.out.r1 (by have := rp.count; omega) rp.bare HX.out.inp hci).mono ?_
  rintro e W2 ⟨v, rfl, hv, hb2⟩
  obtain ⟨o, ho⟩ : ∃ o, runP p inp n = o := ⟨_, rfl⟩
  rw [ho] at hv
  obtain ⟨A, c, rfl, hc⟩ := hv
  have HO := Lib.hid ho
  have HX2 := Lib.hid (HX.out.later hb2)
  have HV := Lib.hid hc
  clear hb2 HX ho hc
  dsimp only [ov]
  go_upto_region 2 with (fail)
  refine wp_named fun Y hY => ?_
  have hbY : Below W2.heap.size W2 Y := hY ▸ (Below.refl _ _).alloc (Nat.le_refl _) _
  have hg : Y.heap[W2.heap.size]? = some (.cells #[.int .u8 o.fin, .int .i64 o.val, .slice A o.trace.length c, .int .i64 o.steps] 60 (0, 0)) := hY ▸ heap_alloc_new W2 _
  have hXY := HX2.out.later hbY
  have hSt : AlS W p q A1 A2 c1 c2 Ai inp o (.slice A2 q.length c2) A c W2.heap.size (W.heap.size + 1) Y :=
    ⟨cell_of_blk _ _ _ _ _ hg 0, cell_of_blk _ _ _ _ _ hg 1, cell_of_blk _ _ _ _ _ hg 2, cell_of_blk _ _ _ _ _ hg 3, cell_of_blk _ _ _ _ _ hXY.b2 0, Lib.hid ⟨hXY, ⟨A, c, rfl, HV.out.1, Kd.C_below HV.out.2 hbY⟩⟩⟩
  have hes := runP_ext p inp n (by omega)
  rw [HO.out] at hes
  have hst : o.steps ≤ 1023 := by omega
  have htl : o.trace.length ≤ 1023 := by omega
  have hcq := rq.count
  have hcp := rp.count
  have hS1 := hSt.later (below_drewN Y 1)
  clear hY hbY hg hXY HX2 HV hes hSt
  generalize W2.heap.size = g1 at *
  obtain ⟨F2, hF2⟩ : ∃ F2, (o.steps + 1) * (countP q + 1) = F2 := ⟨_, rfl⟩
  have hmw := mul_wrap o.steps (countP q) hst hcq
  rw [hF2] at hmw
  obtain ⟨hmw, hm2⟩ := hmw
  obtain ⟨o2, ho2⟩ : ∃ o2, runP q inp F2 = o2 := ⟨_, rfl⟩
  have HO2 := Lib.hid (And.intro hF2 ho2)
  clear hF2 ho2
  by_cases hf : o.fin = 2
  · have hfb : (o.fin != 2) = false := bne_eq_false_iff_eq.mpr hf
    have HF := Lib.hid hf
    clear hf
    refine wp_region_held_drew (S := (AlS W p q A1 A2 c1 c2 Ai inp o (.slice A2 q.length c2) A c g1 (W.heap.size + 1))) (by kernel_rfl) (by (first | exact hS1 | (refine AlS.later (by assumption) ?_; assumption))) (fun hHeld => ?_)
    refine wpAnyH_take (i := 0) (oi := { dst := some 15, op := Go.Op.fieldAddr 60 (Go.Operand.tmp 9) 0, type := 0, pos := "law.go:54", after := #[], guard := none }) (v := ?_) rfl (by kernel_rfl) (by kernel_rfl) (by kernel_rfl) (fun _ _ _ h => h) (Or.inl ⟨by rfl, ?_⟩) (by assumption) ?_
    rotate_left 1
    · intro w hSw; (obtain ⟨d0, d1, d2, d3, d4, _⟩ := hSw); go_simp; try with_reducible rfl
    try simp only [Act.put, List.setIfInBounds_toArray, List.set_cons_zero, List.set_cons_succ, hfb]
    refine wpAnyH_take (i := 1) (oi := { dst := some 16, op := Go.Op.load 58 (Go.Operand.tmp 15), type := 58, pos := "law.go:54", after := #[{ on := 0, ground := Go.Ground.data }], guard := none }) (v := ?_) rfl (by kernel_rfl) (by kernel_rfl) (by kernel_rfl) (fun _ _ _ h => h) (Or.inl ⟨by rfl, ?_⟩) (by assumption) ?_
    rotate_left 1
    · intro w hSw; (obtain ⟨d0, d1, d2, d3, d4, _⟩ := hSw); go_simp; try with_reducible rfl
    try simp only [Act.put, List.setIfInBounds_toArray, List.set_cons_zero, List.set_cons_succ, hfb]
    refine wpAnyH_take (i := 2) (oi := { dst := some 17, op := Go.Op.binOp Go.BinOp.neq 58 (Go.Operand.tmp 16) (Go.Operand.const (Go.Value.int Go.IntKind.u8 2)) 58, type := 4, pos := "law.go:54", after := #[{ on := 1, ground := Go.Ground.data }], guard := none }) (v := ?_) rfl (by kernel_rfl) (by kernel_rfl) (by kernel_rfl) (fun _ _ _ h => h) (Or.inl ⟨by rfl, ?_⟩) (by assumption) ?_
    rotate_left 1
    · intro w hSw; (obtain ⟨d0, d1, d2, d3, d4, _⟩ := hSw); go_simp; try with_reducible rfl
    try simp only [Act.put, List.setIfInBounds_toArray, List.set_cons_zero, List.set_cons_succ, hfb]
    refine wpAnyH_take (i := 3) (oi := { dst := some 18, op := Go.Op.move (Go.Operand.tmp 17), type := 4, pos := "law.go:54", after := #[{ on := 2, ground := Go.Ground.data }], guard := none }) (v := ?_) rfl (by kernel_rfl) (by kernel_rfl) (by kernel_rfl) (fun _ _ _ h => h) (Or.inl ⟨by rfl, ?_⟩) (by assumption) ?_
    rotate_left 1
    · intro w hSw; (obtain ⟨d0, d1, d2, d3, d4, _⟩ := hSw); go_simp; try with_reducible rfl
    try simp only [Act.put, List.setIfInBounds_toArray, List.set_cons_zero, List.set_cons_succ, hfb]
    refine wpAnyH_take (i := 4) (oi := { dst := some 19, op := Go.Op.load 60 (Go.Operand.tmp 9), type := 60, pos := "law.go:54", after := #[{ on := 3, ground := Go.Ground.guard }], guard := some (3, true) }) (v := undef) rfl (by kernel_rfl) (by kernel_rfl) (by kernel_rfl) (fun _ _ _ h => h) (Or.inr ⟨by rfl, rfl⟩) (by assumption) ?_
    try simp only [Act.put, List.setIfInBounds_toArray, List.set_cons_zero, List.set_cons_succ, hfb]
    refine wpAnyH_take (i := 5) (oi := { dst := some 20, op := Go.Op.load 57 (Go.Operand.tmp 5), type := 57, pos := "law.go:54", after := #[{ on := 3, ground := Go.Ground.guard }], guard := some (3, true) }) (v := undef) rfl (by kernel_rfl) (by kernel_rfl) (by kernel_rfl) (fun _ _ _ h => h) (Or.inr ⟨by rfl, rfl⟩) (by assumption) ?_
    try simp only [Act.put, List.setIfInBounds_toArray, List.set_cons_zero, List.set_cons_succ, hfb]
    refine wpAnyH_take (i := 6) (oi := { dst := some 21, op := Go.Op.move (Go.Operand.tmp 2), type := 54, pos := "law.go:54", after := #[{ on := 3, ground := Go.Ground.guard }], guard := some (3, true) }) (v := undef) rfl (by kernel_rfl) (by kernel_rfl) (by kernel_rfl) (fun _ _ _ h => h) (Or.inr ⟨by rfl, rfl⟩) (by assumption) ?_
    try simp only [Act.put, List.setIfInBounds_toArray, List.set_cons_zero, List.set_cons_succ, hfb]
    refine wpAnyH_take (i := 7) (oi := { dst := some 22, op := Go.Op.fieldAddr 60 (Go.Operand.tmp 9) 3, type := 0, pos := "law.go:54", after := #[{ on := 3, ground := Go.Ground.guard }], guard := some (3, true) }) (v := undef) rfl (by kernel_rfl) (by kernel_rfl) (by kernel_rfl) (fun _ _ _ h => h) (Or.inr ⟨by rfl, rfl⟩) (by assumption) ?_
    try simp only [Act.put, List.setIfInBounds_toArray, List.set_cons_zero, List.set_cons_succ, hfb]
    refine wpAnyH_take (i := 8) (oi := { dst := some 23, op := Go.Op.load 3 (Go.Operand.tmp 22), type := 3, pos := "law.go:54", after := #[{ on := 7, ground := Go.Ground.data }, { on := 3, ground := Go.Ground.guard }], guard := some (3, true) }) (v := undef) rfl (by kernel_rfl) (by kernel_rfl) (by kernel_rfl) (fun _ _ _ h => h) (Or.inr ⟨by rfl, rfl⟩) (by assumption) ?_
    try simp only [Act.put, List.setIfInBounds_toArray, List.set_cons_zero, List.set_cons_succ, hfb]
    refine wpAnyH_take (i := 9) (oi := { dst := some 24, op := Go.Op.binOp Go.BinOp.add 3 (Go.Operand.tmp 23) (Go.Operand.const (Go.Value.int Go.IntKind.i64 1)) 3, type := 3, pos := "law.go:54", after := #[{ on := 8, ground := Go.Ground.data }, { on := 3, ground := Go.Ground.guard }], guard := some (3, true) }) (v := undef) rfl (by kernel_rfl) (by kernel_rfl) (by kernel_rfl) (fun _ _ _ h => h) (Or.inr ⟨by rfl, rfl⟩) (by assumption) ?_
    try simp only [Act.put, List.setIfInBounds_toArray, List.set_cons_zero, List.set_cons_succ, hfb]
    refine wpAnyH_take (i := 10) (oi := { dst := some 25, op := Go.Op.load 57 (Go.Operand.tmp 5), type := 57, pos := "law.go:54", after := #[{ on := 3, ground := Go.Ground.guard }], guard := some (3, true) }) (v := undef) rfl (by kernel_rfl) (by kernel_rfl) (by kernel_rfl) (fun _ _ _ h => h) (Or.inr ⟨by rfl, rfl⟩) (by assumption) ?_
    try simp only [Act.put, List.setIfInBounds_toArray, List.set_cons_zero, List.set_cons_succ, hfb]
    refine wpAnyH_take (i := 11) (oi := { dst := some 26, op := Go.Op.call { callee := Go.Callee.value (Go.Operand.func 78), args := #[Go.Operand.tmp 25], argTypes := #[57] }, type := 3, pos := "law.go:54", after := #[{ on := 10, ground := Go.Ground.data }, { on := 3, ground := Go.Ground.chain }, { on := 3, ground := Go.Ground.guard }], guard := some (3, true) }) (v := undef) rfl (by kernel_rfl) (by kernel_rfl) (by kernel_rfl) (fun _ _ _ h => h) (Or.inr ⟨by rfl, rfl⟩) (by assumption) ?_
    try simp only [Act.put, List.setIfInBounds_toArray, List.set_cons_zero, List.set_cons_succ, hfb]
    refine wpAnyH_take (i := 12) (oi := { dst := some 27, op := Go.Op.binOp Go.BinOp.add 3 (Go.Operand.tmp 26) (Go.Operand.const (Go.Value.int Go.IntKind.i64 1)) 3, type := 3, pos := "law.go:54", after := #[{ on := 11, ground := Go.Ground.data }, { on := 3, ground := Go.Ground.guard }], guard := some (3, true) }) (v := undef) rfl (by kernel_rfl) (by kernel_rfl) (by kernel_rfl) (fun _ _ _ h => h) (Or.inr ⟨by rfl, rfl⟩) (by assumption) ?_
    try simp only [Act.put, List.setIfInBounds_toArray, List.set_cons_zero, List.set_cons_succ, hfb]
    refine wpAnyH_take (i := 13) (oi := { dst := some 28, op := Go.Op.binOp Go.BinOp.mul 3 (Go.Operand.tmp 24) (Go.Operand.tmp 27) 3, type := 3, pos := "law.go:54", after := #[{ on := 9, ground := Go.Ground.data }, { on := 12, ground := Go.Ground.data }, { on := 3, ground := Go.Ground.guard }], guard := some (3, true) }) (v := undef) rfl (by kernel_rfl) (by kernel_rfl) (by kernel_rfl) (fun _ _ _ h => h) (Or.inr ⟨by rfl, rfl⟩) (by assumption) ?_
    try simp only [Act.put, List.setIfInBounds_toArray, List.set_cons_zero, List.set_cons_succ, hfb]
    refine wpAnyH_take (i := 14) (oi := { dst := some 29, op := Go.Op.call { callee := Go.Callee.value (Go.Operand.func 29), args := #[Go.Operand.tmp 20, Go.Operand.tmp 21, Go.Operand.tmp 28], argTypes := #[57, 54, 3] }, type := 60, pos := "law.go:54", after := #[{ on := 5, ground := Go.Ground.data }, { on := 6, ground := Go.Ground.data }, { on := 13, ground := Go.Ground.data }, { on := 11, ground := Go.Ground.chain }, { on := 3, ground := Go.Ground.guard }], guard := some (3, true) }) (v := undef) rfl (by kernel_rfl) (by kernel_rfl) (by kernel_rfl) (fun _ _ _ h => h) (Or.inr ⟨by rfl, rfl⟩) (by assumption) ?_
    try simp only [Act.put, List.setIfInBounds_toArray, List.set_cons_zero, List.set_cons_succ, hfb]
    refine wpAnyH_take (i := 15) (oi := { dst := some 30, op := Go.Op.call { callee := Go.Callee.value (Go.Operand.func 33), args := #[Go.Operand.tmp 19, Go.Operand.tmp 29], argTypes := #[60, 60] }, type := 4, pos := "law.go:54", after := #[{ on := 4, ground := Go.Ground.data }, { on := 14, ground := Go.Ground.data }, { on := 14, ground := Go.Ground.chain }, { on := 3, ground := Go.Ground.guard }], guard := some (3, true) }) (v := undef) rfl (by kernel_rfl) (by kernel_rfl) (by kernel_rfl) (fun _ _ _ h => h) (Or.inr ⟨by rfl, rfl⟩) (by assumption) ?_
    try simp only [Act.put, List.setIfInBounds_toArray, List.set_cons_zero, List.set_cons_succ, hfb]
    refine wpAnyH_take (i := 16) (oi := { dst := some 31, op := Go.Op.unOp Go.UnOp.not 4 (Go.Operand.tmp 30), type := 4, pos := "law.go:54", after := #[{ on := 15, ground := Go.Ground.data }, { on := 3, ground := Go.Ground.guard }], guard := some (3, true) }) (v := undef) rfl (by kernel_rfl) (by kernel_rfl) (by kernel_rfl) (fun _ _ _ h => h) (Or.inr ⟨by rfl, rfl⟩) (by assumption) ?_
    try simp only [Act.put, List.setIfInBounds_toArray, List.set_cons_zero, List.set_cons_succ, hfb]
    refine wpAnyH_take (i := 17) (oi := { dst := some 32, op := Go.Op.pick (Go.Operand.tmp 18) (Go.Operand.tmp 31) (Go.Operand.const (Go.Value.bool false)), type := 4, pos := "law.go:54", after := #[{ on := 3, ground := Go.Ground.data }, { on := 16, ground := Go.Ground.data }], guard := none }) (v := ?_) rfl (by kernel_rfl) (by kernel_rfl) (by kernel_rfl) (fun _ _ _ h => h) (Or.inl ⟨by rfl, ?_⟩) (by assumption) ?_
    rotate_left 1
    · intro w hSw; (obtain ⟨d0, d1, d2, d3, d4, _⟩ := hSw); go_simp; try with_reducible rfl
    try simp only [Act.put, List.setIfInBounds_toArray, List.set_cons_zero, List.set_cons_succ, hfb]
    refine wpAnyH_done (by kernel_rfl) ?_ _
    have hZ := hHeld
    clear hHeld
    generalize Y.drew = Z at *
    have HB := Lib.hid hZ.boxed
    have z1 := cell_of_blk _ _ _ _ _ hZ.boxed.b2 0
    clear hZ hS1 hmw hfb
    go_wp2_with fail
    clear z1
    refine (runR_calls q _ Ai ci inp n Z (by omega) HB.out.r2 (by omega) rq.bare HB.out.inp hci).mono ?_
    rintro e W3 ⟨v, rfl, hv, hb3⟩
    obtain ⟨r, hr⟩ : ∃ r, runP q inp n = r := ⟨_, rfl⟩
    rw [hr] at hv
    obtain ⟨D, d, rfl, hd⟩ := hv
    have HR := Lib.hid hr
    have HB3 := Lib.hid (HB.out.later hb3)
    have HD := Lib.hid hd
    clear hb3 HB hr hd
    dsimp only [ov]
    go_upto_region 5 with (fail)
    refine wp_named fun V hV => ?_
    have hbV : Below W3.heap.size W3 V := hV ▸ (Below.refl _ _).alloc (Nat.le_refl _) _
    have hg : V.heap[W3.heap.size]? = some (.cells #[.int .u8 r.fin, .int .i64 r.val, .slice D r.trace.length d, .int .i64 r.steps] 60 (0, 0)) := hV ▸ heap_alloc_new W3 _
    have hXV := HB3.out.later hbV
    have hSt : AlS W p q A1 A2 c1 c2 Ai inp r (.slice A1 p.length c1) D d W3.heap.size W.heap.size V :=
      ⟨cell_of_blk _ _ _ _ _ hg 0, cell_of_blk _ _ _ _ _ hg 1, cell_of_blk _ _ _ _ _ hg 2, cell_of_blk _ _ _ _ _ hg 3, cell_of_blk _ _ _ _ _ hXV.b1 0, Lib.hid ⟨hXV, ⟨D, d, rfl, HD.out.1, Kd.C_below HD.out.2 hbV⟩⟩⟩
    have hes := runP_ext q inp n (by omega)
    rw [HR.out] at hes
    have hst2 : r.steps ≤ 1023 := by omega
    have htl2 : r.trace.length ≤ 1023 := by omega
    have hS1 := hSt.later (below_drewN V 1)
    clear hV hbV hg hXV HB3 HD hes hSt
    generalize W3.heap.size = g3 at *
    obtain ⟨F3, hF3⟩ : ∃ F3, (r.steps + 1) * (countP p + 1) = F3 := ⟨_, rfl⟩
    have hmw := mul_wrap r.steps (countP p) hst2 hcp
    rw [hF3] at hmw
    obtain ⟨hmw, hm3⟩ := hmw
    obtain ⟨r2, hr2⟩ : ∃ r2, runP p inp F3 = r2 := ⟨_, rfl⟩
    have HR2 := Lib.hid (And.intro hF3 hr2)
    clear hF3 hr2
    by_cases hf : r.fin = 2
    · have hfb : (r.fin == 2) = true := beq_iff_eq.mpr hf
      have HF5 := Lib.hid hf
      clear hf
      refine wp_region_held_drew (S := (AlS W p q A1 A2 c1 c2 Ai inp r (.slice A1 p.length c1) D d g3 W.heap.size)) (by kernel_rfl) (by (first | exact hS1 | (refine AlS.later (by assumption) ?_; assumption))) (fun hHeld => ?_)
      refine wpAnyH_take (i := 0) (oi := { dst := some 37, op := Go.Op.fieldAddr 60 (Go.Operand.tmp 10) 0, type := 0, pos := "law.go:58", after := #[], guard := none }) (v := ?_) rfl (by kernel_rfl) (by kernel_rfl) (by kernel_rfl) (fun _ _ _ h => h) (Or.inl ⟨by rfl, ?_⟩) (by assumption) ?_
      rotate_left 1
      · intro w hSw; (obtain ⟨d0, d1, d2, d3, d4, _⟩ := hSw); go_simp; try with_reducible rfl
      try simp only [Act.put, List.setIfInBounds_toArray, List.set_cons_zero, List.set_cons_succ, hfb]
      refine wpAnyH_take (i := 1) (oi := { dst := some 38, op := Go.Op.load 58 (Go.Operand.tmp 37), type := 58, pos := "law.go:58", after := #[{ on := 0, ground := Go.Ground.data }], guard := none }) (v := ?_) rfl (by kernel_rfl) (by kernel_rfl) (by kernel_rfl) (fun _ _ _ h => h) (Or.inl ⟨by rfl, ?_⟩) (by assumption) ?_
      rotate_left 1
      · intro w hSw; (obtain ⟨d0, d1, d2, d3, d4, _⟩ := hSw); go_simp; try with_reducible rfl
      try simp only [Act.put, List.setIfInBounds_toArray, List.set_cons_zero, List.set_cons_succ, hfb]
      refine wpAnyH_take (i := 2) (oi := { dst := some 39, op := Go.Op.binOp Go.BinOp.eql 58 (Go.Operand.tmp 38) (Go.Operand.const (Go.Value.int Go.IntKind.u8 2)) 58, type := 4, pos := "law.go:58", after := #[{ on := 1, ground := Go.Ground.data }], guard := none }) (v := ?_) rfl (by kernel_rfl) (by kernel_rfl) (by kernel_rfl) (fun _ _ _ h => h) (Or.inl ⟨by rfl, ?_⟩) (by assumption) ?_
      rotate_left 1
      · intro w hSw; (obtain ⟨d0, d1, d2, d3, d4, _⟩ := hSw); go_simp; try with_reducible rfl
      try simp only [Act.put, List.setIfInBounds_toArray, List.set_cons_zero, List.set_cons_succ, hfb]
      refine wpAnyH_take (i := 3) (oi := { dst := some 40, op := Go.Op.move (Go.Operand.tmp 39), type := 4, pos := "law.go:58", after := #[{ on := 2, ground := Go.Ground.data }], guard := none }) (v := ?_) rfl (by kernel_rfl) (by kernel_rfl) (by kernel_rfl) (fun _ _ _ h => h) (Or.inl ⟨by rfl, ?_⟩) (by assumption) ?_
      rotate_left 1
      · intro w hSw; (obtain ⟨d0, d1, d2, d3, d4, _⟩ := hSw); go_simp; try with_reducible rfl
      try simp only [Act.put, List.setIfInBounds_toArray, List.set_cons_zero, List.set_cons_succ, hfb]
      refine wpAnyH_take (i := 4) (oi := { dst := some 41, op := Go.Op.load 60 (Go.Operand.tmp 10), type := 60, pos := "law.go:58", after := #[{ on := 3, ground := Go.Ground.guard }], guard := some (3, false) }) (v := undef) rfl (by kernel_rfl) (by kernel_rfl) (by kernel_rfl) (fun _ _ _ h => h) (Or.inr ⟨by rfl, rfl⟩) (by assumption) ?_
      try simp only [Act.put, List.setIfInBounds_toArray, List.set_cons_zero, List.set_cons_succ, hfb]
      refine wpAnyH_take (i := 5) (oi := { dst := some 42, op := Go.Op.load 57 (Go.Operand.tmp 4), type := 57, pos := "law.go:58", after := #[{ on := 3, ground := Go.Ground.guard }], guard := some (3, false) }) (v := undef) rfl (by kernel_rfl) (by kernel_rfl) (by kernel_rfl) (fun _ _ _ h => h) (Or.inr ⟨by rfl, rfl⟩) (by assumption) ?_
      try simp only [Act.put, List.setIfInBounds_toArray, List.set_cons_zero, List.set_cons_succ, hfb]
      refine wpAnyH_take (i := 6) (oi := { dst := some 43, op := Go.Op.move (Go.Operand.tmp 2), type := 54, pos := "law.go:58", after := #[{ on := 3, ground := Go.Ground.guard }], guard := some (3, false) }) (v := undef) rfl (by kernel_rfl) (by kernel_rfl) (by kernel_rfl) (fun _ _ _ h => h) (Or.inr ⟨by rfl, rfl⟩) (by assumption) ?_
      try simp only [Act.put, List.setIfInBounds_toArray, List.set_cons_zero, List.set_cons_succ, hfb]
      refine wpAnyH_take (i := 7) (oi := { dst := some 44, op := Go.Op.fieldAddr 60 (Go.Operand.tmp 10) 3, type := 0, pos := "law.go:58", after := #[{ on := 3, ground := Go.Ground.guard }], guard := some (3, false) }) (v := undef) rfl (by kernel_rfl) (by kernel_rfl) (by kernel_rfl) (fun _ _ _ h => h) (Or.inr ⟨by rfl, rfl⟩) (by assumption) ?_
      try simp only [Act.put, List.setIfInBounds_toArray, List.set_cons_zero, List.set_cons_succ, hfb]
      refine wpAnyH_take (i := 8) (oi := { dst := some 45, op := Go.Op.load 3 (Go.Operand.tmp 44), type := 3, pos := "law.go:58", after := #[{ on := 7, ground := Go.Ground.data }, { on := 3, ground := Go.Ground.guard }], guard := some (3, false) }) (v := undef) rfl (by kernel_rfl) (by kernel_rfl) (by kernel_rfl) (fun _ _ _ h => h) (Or.inr ⟨by rfl, rfl⟩) (by assumption) ?_
      try simp only [Act.put, List.setIfInBounds_toArray, List.set_cons_zero, List.set_cons_succ, hfb]
      refine wpAnyH_take (i := 9) (oi := { dst := some 46, op := Go.Op.binOp Go.BinOp.add 3 (Go.Operand.tmp 45) (Go.Operand.const (Go.Value.int Go.IntKind.i64 1)) 3, type := 3, pos := "law.go:58", after := #[{ on := 8, ground := Go.Ground.data }, { on := 3, ground := Go.Ground.guard }], guard := some (3, false) }) (v := undef) rfl (by kernel_rfl) (by kernel_rfl) (by kernel_rfl) (fun _ _ _ h => h) (Or.inr ⟨by rfl, rfl⟩) (by assumption) ?_
      try simp only [Act.put, List.setIfInBounds_toArray, List.set_cons_zero, List.set_cons_succ, hfb]
      refine wpAnyH_take (i := 10) (oi := { dst := some 47, op := Go.Op.load 57 (Go.Operand.tmp 4), type := 57, pos := "law.go:58", after := #[{ on := 3, ground := Go.Ground.guard }], guard := some (3, false) }) (v := undef) rfl (by kernel_rfl) (by kernel_rfl) (by kernel_rfl) (fun _ _ _ h => h) (Or.inr ⟨by rfl, rfl⟩) (by assumption) ?_
      try simp only [Act.put, List.setIfInBounds_toArray, List.set_cons_zero, List.set_cons_succ, hfb]
      refine wpAnyH_take (i := 11) (oi := { dst := some 48, op := Go.Op.call { callee := Go.Callee.value (Go.Operand.func 78), args := #[Go.Operand.tmp 47], argTypes := #[57] }, type := 3, pos := "law.go:58", after := #[{ on := 10, ground := Go.Ground.data }, { on := 3, ground := Go.Ground.chain }, { on := 3, ground := Go.Ground.guard }], guard := some (3, false) }) (v := undef) rfl (by kernel_rfl) (by kernel_rfl) (by kernel_rfl) (fun _ _ _ h => h) (Or.inr ⟨by rfl, rfl⟩) (by assumption) ?_
      try simp only [Act.put, List.setIfInBounds_toArray, List.set_cons_zero, List.set_cons_succ, hfb]
      refine wpAnyH_take (i := 12) (oi := { dst := some 49, op := Go.Op.binOp Go.BinOp.add 3 (Go.Operand.tmp 48) (Go.Operand.const (Go.Value.int Go.IntKind.i64 1)) 3, type := 3, pos := "law.go:58", after := #[{ on := 11, ground := Go.Ground.data }, { on := 3, ground := Go.Ground.guard }], guard := some (3, false) }) (v := undef) rfl (by kernel_rfl) (by kernel_rfl) (by kernel_rfl) (fun _ _ _ h => h) (Or.inr ⟨by rfl, rfl⟩) (by assumption) ?_
      try simp only [Act.put, List.setIfInBounds_toArray, List.set_cons_zero, List.set_cons_succ, hfb]
      refine wpAnyH_take (i := 13) (oi := { dst := some 50, op := Go.Op.binOp Go.BinOp.mul 3 (Go.Operand.tmp 46) (Go.Operand.tmp 49) 3, type := 3, pos := "law.go:58", after := #[{ on := 9, ground := Go.Ground.data }, { on := 12, ground := Go.Ground.data }, { on := 3, ground := Go.Ground.guard }], guard := some (3, false) }) (v := undef) rfl (by kernel_rfl) (by kernel_rfl) (by kernel_rfl) (fun _ _ _ h => h) (Or.inr ⟨by rfl, rfl⟩) (by assumption) ?_
      try simp only [Act.put, List.setIfInBounds_toArray, List.set_cons_zero, List.set_cons_succ, hfb]
      refine wpAnyH_take (i := 14) (oi := { dst := some 51, op := Go.Op.call { callee := Go.Callee.value (Go.Operand.func 29), args := #[Go.Operand.tmp 42, Go.Operand.tmp 43, Go.Operand.tmp 50], argTypes := #[57, 54, 3] }, type := 60, pos := "law.go:58", after := #[{ on := 5, ground := Go.Ground.data }, { on := 6, ground := Go.Ground.data }, { on := 13, ground := Go.Ground.data }, { on := 11, ground := Go.Ground.chain }, { on := 3, ground := Go.Ground.guard }], guard := some (3, false) }) (v := undef) rfl (by kernel_rfl) (by kernel_rfl) (by kernel_rfl) (fun _ _ _ h => h) (Or.inr ⟨by rfl, rfl⟩) (by assumption) ?_
      try simp only [Act.put, List.setIfInBounds_toArray, List.set_cons_zero, List.set_cons_succ, hfb]
      refine wpAnyH_take (i := 15) (oi := { dst := some 52, op := Go.Op.call { callee := Go.Callee.value (Go.Operand.func 33), args := #[Go.Operand.tmp 41, Go.Operand.tmp 51], argTypes := #[60, 60] }, type := 4, pos := "law.go:58", after := #[{ on := 4, ground := Go.Ground.data }, { on := 14, ground := Go.Ground.data }, { on := 14, ground := Go.Ground.chain }, { on := 3, ground := Go.Ground.guard }], guard := some (3, false) }) (v := undef) rfl (by kernel_rfl) (by kernel_rfl) (by kernel_rfl) (fun _ _ _ h => h) (Or.inr ⟨by rfl, rfl⟩) (by assumption) ?_
      try simp only [Act.put, List.setIfInBounds_toArray, List.set_cons_zero, List.set_cons_succ, hfb]
      refine wpAnyH_take (i := 16) (oi := { dst := some 53, op := Go.Op.pick (Go.Operand.tmp 40) (Go.Operand.const (Go.Value.bool true)) (Go.Operand.tmp 52), type := 4, pos := "law.go:58", after := #[{ on := 3, ground := Go.Ground.data }, { on := 15, ground := Go.Ground.data }], guard := none }) (v := ?_) rfl (by kernel_rfl) (by kernel_rfl) (by kernel_rfl) (fun _ _ _ h => h) (Or.inl ⟨by rfl, ?_⟩) (by assumption) ?_
      rotate_left 1
      · intro w hSw; (obtain ⟨d0, d1, d2, d3, d4, _⟩ := hSw); go_simp; try with_reducible rfl
      try simp only [Act.put, List.setIfInBounds_toArray, List.set_cons_zero, List.set_cons_succ, hfb]
      refine wpAnyH_take (i := 17) (oi := { dst := some 8, op := Go.Op.assign (Go.Operand.tmp 53), type := 4, pos := "law.go:58", after := #[{ on := 16, ground := Go.Ground.data }, { on := 15, ground := Go.Ground.chain }, { on := 0, ground := Go.Ground.phase }, { on := 1, ground := Go.Ground.phase }, { on := 2, ground := Go.Ground.phase }, { on := 3, ground := Go.Ground.phase }, { on := 4, ground := Go.Ground.phase }, { on := 5, ground := Go.Ground.phase }, { on := 6, ground := Go.Ground.phase }, { on := 7, ground := Go.Ground.phase }, { on := 8, ground := Go.Ground.phase }, { on := 9, ground := Go.Ground.phase }, { on := 10, ground := Go.Ground.phase }, { on := 11, ground := Go.Ground.phase }, { on := 12, ground := Go.Ground.phase }, { on := 13, ground := Go.Ground.phase }, { on := 14, ground := Go.Ground.phase }, { on := 15, ground := Go.Ground.phase }, { on := 16, ground := Go.Ground.phase }], guard := none }) (v := ?_) rfl (by kernel_rfl) (by kernel_rfl) (by kernel_rfl) (fun _ _ _ h => h) (Or.inl ⟨by rfl, ?_⟩) (by assumption) ?_
      rotate_left 1
      · intro w hSw; (obtain ⟨d0, d1, d2, d3, d4, _⟩ := hSw); go_simp; try with_reducible rfl
      try simp only [Act.put, List.setIfInBounds_toArray, List.set_cons_zero, List.set_cons_succ, hfb]
      refine wpAnyH_done (by kernel_rfl) ?_ _
      have hbel := hHeld.boxed.below
      clear hHeld hS1
      go_wp2_with fail
      go_ret
      refine ⟨?_, hbel⟩
      unfold alikeB
      rw [HO.out, HO2.out.1, HO2.out.2, HR.out, if_neg]
      · simp [HF5.out]
      · simp [HF.out]
    · have hfb : (r.fin == 2) = false := beq_eq_false_iff_ne.mpr hf
      have HF5 := Lib.hid hf
      clear hf
      refine wp_region_held_drew (S := (AlS W p q A1 A2 c1 c2 Ai inp r (.slice A1 p.length c1) D d g3 W.heap.size)) (by kernel_rfl) (by (first | exact hS1 | (refine AlS.later (by assumption) ?_; assumption))) (fun hHeld => ?_)
      refine wpAnyH_take (i := 0) (oi := { dst := some 37, op := Go.Op.fieldAddr 60 (Go.Operand.tmp 10) 0, type := 0, pos := "law.go:58", after := #[], guard := none }) (v := ?_) rfl (by kernel_rfl) (by kernel_rfl) (by kernel_rfl) (fun _ _ _ h => h) (Or.inl ⟨by rfl, ?_⟩) (by assumption) ?_
      rotate_left 1
      · intro w hSw; (obtain ⟨d0, d1, d2, d3, d4, _⟩ := hSw); go_simp; try with_reducible rfl
      try simp only [Act.put, List.setIfInBounds_toArray, List.set_cons_zero, List.set_cons_succ, hfb]
      refine wpAnyH_take (i := 1) (oi := { dst := some 38, op := Go.Op.load 58 (Go.Operand.tmp 37), type := 58, pos := "law.go:58", after := #[{ on := 0, ground := Go.Ground.data }], guard := none }) (v := ?_) rfl (by kernel_rfl) (by kernel_rfl) (by kernel_rfl) (fun _ _ _ h => h) (Or.inl ⟨by rfl, ?_⟩) (by assumption) ?_
      rotate_left 1
      · intro w hSw; (obtain ⟨d0, d1, d2, d3, d4, _⟩ := hSw); go_simp; try with_reducible rfl
      try simp only [Act.put, List.setIfInBounds_toArray, List.set_cons_zero, List.set_cons_succ, hfb]
      refine wpAnyH_take (i := 2) (oi := { dst := some 39, op := Go.Op.binOp Go.BinOp.eql 58 (Go.Operand.tmp 38) (Go.Operand.const (Go.Value.int Go.IntKind.u8 2)) 58, type := 4, pos := "law.go:58", after := #[{ on := 1, ground := Go.Ground.data }], guard := none }) (v := ?_) rfl (by kernel_rfl) (by kernel_rfl) (by kernel_rfl) (fun _ _ _ h => h) (Or.inl ⟨by rfl, ?_⟩) (by assumption) ?_
      rotate_left 1
      · intro w hSw; (obtain ⟨d0, d1, d2, d3, d4, _⟩ := hSw); go_simp; try with_reducible rfl
      try simp only [Act.put, List.setIfInBounds_toArray, List.set_cons_zero, List.set_cons_succ, hfb]
      refine wpAnyH_take (i := 3) (oi := { dst := some 40, op := Go.Op.move (Go.Operand.tmp 39), type := 4, pos := "law.go:58", after := #[{ on := 2, ground := Go.Ground.data }], guard := none }) (v := ?_) rfl (by kernel_rfl) (by kernel_rfl) (by kernel_rfl) (fun _ _ _ h => h) (Or.inl ⟨by rfl, ?_⟩) (by assumption) ?_
      rotate_left 1
      · intro w hSw; (obtain ⟨d0, d1, d2, d3, d4, _⟩ := hSw); go_simp; try with_reducible rfl
      try simp only [Act.put, List.setIfInBounds_toArray, List.set_cons_zero, List.set_cons_succ, hfb]
      refine wpAnyH_take (i := 4) (oi := { dst := some 41, op := Go.Op.load 60 (Go.Operand.tmp 10), type := 60, pos := "law.go:58", after := #[{ on := 3, ground := Go.Ground.guard }], guard := some (3, false) }) (v := ?_) rfl (by kernel_rfl) (by kernel_rfl) (by kernel_rfl) (fun _ _ _ h => h) (Or.inl ⟨by rfl, ?_⟩) (by assumption) ?_
      rotate_left 1
      · intro w hSw; (obtain ⟨d0, d1, d2, d3, d4, _⟩ := hSw); go_simp; try with_reducible rfl
      try simp only [Act.put, List.setIfInBounds_toArray, List.set_cons_zero, List.set_cons_succ, hfb]
      refine wpAnyH_take (i := 5) (oi := { dst := some 42, op := Go.Op.load 57 (Go.Operand.tmp 4), type := 57, pos := "law.go:58", after := #[{ on := 3, ground := Go.Ground.guard }], guard := some (3, false) }) (v := ?_) rfl (by kernel_rfl) (by kernel_rfl) (by kernel_rfl) (fun _ _ _ h => h) (Or.inl ⟨by rfl, ?_⟩) (by assumption) ?_
      rotate_left 1
      · intro w hSw; (obtain ⟨d0, d1, d2, d3, d4, _⟩ := hSw); go_simp; try with_reducible rfl
      try simp only [Act.put, List.setIfInBounds_toArray, List.set_cons_zero, List.set_cons_succ, hfb]
      refine wpAnyH_take (i := 6) (oi := { dst := some 43, op := Go.Op.move (Go.Operand.tmp 2), type := 54, pos := "law.go:58", after := #[{ on := 3, ground := Go.Ground.guard }], guard := some (3, false) }) (v := ?_) rfl (by kernel_rfl) (by kernel_rfl) (by kernel_rfl) (fun _ _ _ h => h) (Or.inl ⟨by rfl, ?_⟩) (by assumption) ?_
      rotate_left 1
      · intro w hSw; (obtain ⟨d0, d1, d2, d3, d4, _⟩ := hSw); go_simp; try with_reducible rfl
      try simp only [Act.put, List.setIfInBounds_toArray, List.set_cons_zero, List.set_cons_succ, hfb]
      refine wpAnyH_take (i := 7) (oi := { dst := some 44, op := Go.Op.fieldAddr 60 (Go.Operand.tmp 10) 3, type := 0, pos := "law.go:58", after := #[{ on := 3, ground := Go.Ground.guard }], guard := some (3, false) }) (v := ?_) rfl (by kernel_rfl) (by kernel_rfl) (by kernel_rfl) (fun _ _ _ h => h) (Or.inl ⟨by rfl, ?_⟩) (by assumption) ?_
      rotate_left 1
      · intro w hSw; (obtain ⟨d0, d1, d2, d3, d4, _⟩ := hSw); go_simp; try with_reducible rfl
      try simp only [Act.put, List.setIfInBounds_toArray, List.set_cons_zero, List.set_cons_succ, hfb]
      refine wpAnyH_take (i := 8) (oi := { dst := some 45, op := Go.Op.load 3 (Go.Operand.tmp 44), type := 3, pos := "law.go:58", after := #[{ on := 7, ground := Go.Ground.data }, { on := 3, ground := Go.Ground.guard }], guard := some (3, false) }) (v := ?_) rfl (by kernel_rfl) (by kernel_rfl) (by kernel_rfl) (fun _ _ _ h => h) (Or.inl ⟨by rfl, ?_⟩) (by assumption) ?_
      rotate_left 1
      · intro w hSw; (obtain ⟨d0, d1, d2, d3, d4, _⟩ := hSw); go_simp; try with_reducible rfl
      try simp only [Act.put, List.setIfInBounds_toArray, List.set_cons_zero, List.set_cons_succ, hfb]
      refine wpAnyH_take (i := 9) (oi := { dst := some 46, op := Go.Op.binOp Go.BinOp.add 3 (Go.Operand.tmp 45) (Go.Operand.const (Go.Value.int Go.IntKind.i64 1)) 3, type := 3, pos := "law.go:58", after := #[{ on := 8, ground := Go.Ground.data }, { on := 3, ground := Go.Ground.guard }], guard := some (3, false) }) (v := ?_) rfl (by kernel_rfl) (by kernel_rfl) (by kernel_rfl) (fun _ _ _ h => h) (Or.inl ⟨by rfl, ?_⟩) (by assumption) ?_
      rotate_left 1
      · intro w hSw; (obtain ⟨d0, d1, d2, d3, d4, _⟩ := hSw); go_simp; try with_reducible rfl
      try simp only [Act.put, List.setIfInBounds_toArray, List.set_cons_zero, List.set_cons_succ, hfb]
      refine wpAnyH_take (i := 10) (oi := { dst := some 47, op := Go.Op.load 57 (Go.Operand.tmp 4), type := 57, pos := "law.go:58", after := #[{ on := 3, ground := Go.Ground.guard }], guard := some (3, false) }) (v := ?_) rfl (by kernel_rfl) (by kernel_rfl) (by kernel_rfl) (fun _ _ _ h => h) (Or.inl ⟨by rfl, ?_⟩) (by assumption) ?_
      rotate_left 1
      · intro w hSw; (obtain ⟨d0, d1, d2, d3, d4, _⟩ := hSw); go_simp; try with_reducible rfl
      try simp only [Act.put, List.setIfInBounds_toArray, List.set_cons_zero, List.set_cons_succ, hfb]
      refine wpAnyH_ready (rs := [11]) (by kernel_rfl) (by simp) ?_
      refine AllReadyH.cons (o := { dst := some 48, op := Go.Op.call { callee := Go.Callee.value (Go.Operand.func 78), args := #[Go.Operand.tmp 47], argTypes := #[57] }, type := 3, pos := "law.go:58", after := #[{ on := 10, ground := Go.Ground.data }, { on := 3, ground := Go.Ground.chain }, { on := 3, ground := Go.Ground.guard }], guard := some (3, false) }) rfl (fun K hK => ?_) AllReadyH.nil
      go_simp
      refine (countR_calls p _ _ (AlS.boxed (by assumption)).r1 (by omega)).mono ?_
      rintro e w1 ⟨rfl, hb1⟩
      go_wp2_with fail
      refine hK.out _ _ ?_ (fun hHeld1 => ?_)
      · (try dsimp only); (first | exact hS1 | (refine AlS.later (by assumption) ?_; assumption))
      clear hK K hHeld
      try simp only [Act.put, List.setIfInBounds_toArray, List.set_cons_zero, List.set_cons_succ, hfb]
      refine wpAnyH_take (i := 12) (oi := { dst := some 49, op := Go.Op.binOp Go.BinOp.add 3 (Go.Operand.tmp 48) (Go.Operand.const (Go.Value.int Go.IntKind.i64 1)) 3, type := 3, pos := "law.go:58", after := #[{ on := 11, ground := Go.Ground.data }, { on := 3, ground := Go.Ground.guard }], guard := some (3, false) }) (v := ?_) rfl (by kernel_rfl) (by kernel_rfl) (by kernel_rfl) (fun _ _ _ h => h) (Or.inl ⟨by rfl, ?_⟩) (by assumption) ?_
      rotate_left 1
      · intro w hSw; (obtain ⟨d0, d1, d2, d3, d4, _⟩ := hSw); go_simp; try with_reducible rfl
      try simp only [Act.put, List.setIfInBounds_toArray, List.set_cons_zero, List.set_cons_succ, hfb]
      refine wpAnyH_take (i := 13) (oi := { dst := some 50, op := Go.Op.binOp Go.BinOp.mul 3 (Go.Operand.tmp 46) (Go.Operand.tmp 49) 3, type := 3, pos := "law.go:58", after := #[{ on := 9, ground := Go.Ground.data }, { on := 12, ground := Go.Ground.data }, { on := 3, ground := Go.Ground.guard }], guard := some (3, false) }) (v := ?_) rfl (by kernel_rfl) (by kernel_rfl) (by kernel_rfl) (fun _ _ _ h => h) (Or.inl ⟨by rfl, ?_⟩) (by assumption) ?_
      rotate_left 1
      · intro w hSw; (obtain ⟨d0, d1, d2, d3, d4, _⟩ := hSw); go_simp; try with_reducible rfl
      try simp only [Act.put, List.setIfInBounds_toArray, List.set_cons_zero, List.set_cons_succ, hfb]
      refine wpAnyH_ready (rs := [14]) (by kernel_rfl) (by simp) ?_
      refine AllReadyH.cons (o := { dst := some 51, op := Go.Op.call { callee := Go.Callee.value (Go.Operand.func 29), args := #[Go.Operand.tmp 42, Go.Operand.tmp 43, Go.Operand.tmp 50], argTypes := #[57, 54, 3] }, type := 60, pos := "law.go:58", after := #[{ on := 5, ground := Go.Ground.data }, { on := 6, ground := Go.Ground.data }, { on := 13, ground := Go.Ground.data }, { on := 11, ground := Go.Ground.chain }, { on := 3, ground := Go.Ground.guard }], guard := some (3, false) }) rfl (fun K hK => ?_) AllReadyH.nil
      go_simp
      refine (runR_calls p _ Ai ci inp F3 _ hm3 (AlS.boxed (by assumption)).r1 (by omega) rp.bare (AlS.boxed (by assumption)).inp hci).mono ?_
      rintro e w2 ⟨v2, rfl, hv2, hb2⟩
      rw [HR2.out.2] at hv2
      go_wp2_with fail
      refine hK.out _ _ ?_ (fun hHeld2 => ?_)
      · (try dsimp only); (first | exact hS1 | (refine AlS.later (by assumption) ?_; assumption))
      clear hK K hHeld1
      try simp only [Act.put, List.setIfInBounds_toArray, List.set_cons_zero, List.set_cons_succ, hfb]
      refine wpAnyH_ready (rs := [15]) (by kernel_rfl) (by simp) ?_
      refine AllReadyH.cons (o := { dst := some 52, op := Go.Op.call { callee := Go.Callee.value (Go.Operand.func 33), args := #[Go.Operand.tmp 41, Go.Operand.tmp 51], argTypes := #[60, 60] }, type := 4, pos := "law.go:58", after := #[{ on := 4, ground := Go.Ground.data }, { on := 14, ground := Go.Ground.data }, { on := 14, ground := Go.Ground.chain }, { on := 3, ground := Go.Ground.guard }], guard := some (3, false) }) rfl (fun K hK => ?_) AllReadyH.nil
      go_simp
      refine (sameO_calls r _ _ _ _ (AlS.out (by assumption)) hv2 htl2).mono ?_
      rintro e w3 ⟨rfl, hb3⟩
      go_wp2_with fail
      refine hK.out _ _ ?_ (fun hHeld3 => ?_)
      · (try dsimp only); (first | exact hS1 | (refine AlS.later (by assumption) ?_; assumption))
      clear hK K hHeld2
      try simp only [Act.put, List.setIfInBounds_toArray, List.set_cons_zero, List.set_cons_succ, hfb]
      refine wpAnyH_take (i := 16) (oi := { dst := some 53, op := Go.Op.pick (Go.Operand.tmp 40) (Go.Operand.const (Go.Value.bool true)) (Go.Operand.tmp 52), type := 4, pos := "law.go:58", after := #[{ on := 3, ground := Go.Ground.data }, { on := 15, ground := Go.Ground.data }], guard := none }) (v := ?_) rfl (by kernel_rfl) (by kernel_rfl) (by kernel_rfl) (fun _ _ _ h => h) (Or.inl ⟨by rfl, ?_⟩) (by assumption) ?_
      rotate_left 1
      · intro w hSw; (obtain ⟨d0, d1, d2, d3, d4, _⟩ := hSw); go_simp; try with_reducible rfl
      try simp only [Act.put, List.setIfInBounds_toArray, List.set_cons_zero, List.set_cons_succ, hfb]
      refine wpAnyH_take (i := 17) (oi := { dst := some 8, op := Go.Op.assign (Go.Operand.tmp 53), type := 4, pos := "law.go:58", after := #[{ on := 16, ground := Go.Ground.data }, { on := 15, ground := Go.Ground.chain }, { on := 0, ground := Go.Ground.phase }, { on := 1, ground := Go.Ground.phase }, { on := 2, ground := Go.Ground.phase }, { on := 3, ground := Go.Ground.phase }, { on := 4, ground := Go.Ground.phase }, { on := 5, ground := Go.Ground.phase }, { on := 6, ground := Go.Ground.phase }, { on := 7, ground := Go.Ground.phase }, { on := 8, ground := Go.Ground.phase }, { on := 9, ground := Go.Ground.phase }, { on := 10, ground := Go.Ground.phase }, { on := 11, ground := Go.Ground.phase }, { on := 12, ground := Go.Ground.phase }, { on := 13, ground := Go.Ground.phase }, { on := 14, ground := Go.Ground.phase }, { on := 15, ground := Go.Ground.phase }, { on := 16, ground := Go.Ground.phase }], guard := none }) (v := ?_) rfl (by kernel_rfl) (by kernel_rfl) (by kernel_rfl) (fun _ _ _ h => h) (Or.inl ⟨by rfl, ?_⟩) (by assumption) ?_
      rotate_left 1
      · intro w hSw; (obtain ⟨d0, d1, d2, d3, d4, _⟩ := hSw); go_simp; try with_reducible rfl
      try simp only [Act.put, List.setIfInBounds_toArray, List.set_cons_zero, List.set_cons_succ, hfb]
      refine wpAnyH_done (by kernel_rfl) ?_ _
      have hbel := hHeld3.boxed.below
      clear hHeld3 hS1
      go_wp2_with fail
      go_ret
      refine ⟨?_, hbel⟩
      unfold alikeB
      rw [HO.out, HO2.out.1, HO2.out.2, HR.out, HR2.out.1, HR2.out.2, if_neg]
      · simp [HF5.out]
      · simp [HF.out]
  · have hfb : (o.fin != 2) = true := bne_iff_ne.mpr hf
    have HF := Lib.hid hf
    clear hf
    refine wp_region_held_drew (S := (AlS W p q A1 A2 c1 c2 Ai inp o (.slice A2 q.length c2) A c g1 (W.heap.size + 1))) (by kernel_rfl) (by (first | exact hS1 | (refine AlS.later (by assumption) ?_; assumption))) (fun hHeld => ?_)
    refine wpAnyH_take (i := 0) (oi := { dst := some 15, op := Go.Op.fieldAddr 60 (Go.Operand.tmp 9) 0, type := 0, pos := "law.go:54", after := #[], guard := none }) (v := ?_) rfl (by kernel_rfl) (by kernel_rfl) (by kernel_rfl) (fun _ _ _ h => h) (Or.inl ⟨by rfl, ?_⟩) (by assumption) ?_
    rotate_left 1
    · intro w hSw; (obtain ⟨d0, d1, d2, d3, d4, _⟩ := hSw); go_simp; try with_reducible rfl
    try simp only [Act.put, List.setIfInBounds_toArray, List.set_cons_zero, List.set_cons_succ, hfb]
    refine wpAnyH_take (i := 1) (oi := { dst := some 16, op := Go.Op.load 58 (Go.Operand.tmp 15), type := 58, pos := "law.go:54", after := #[{ on := 0, ground := Go.Ground.data }], guard := none }) (v := ?_) rfl (by kernel_rfl) (by kernel_rfl) (by kernel_rfl) (fun _ _ _ h => h) (Or.inl ⟨by rfl, ?_⟩) (by assumption) ?_
    rotate_left 1
    · intro w hSw; (obtain ⟨d0, d1, d2, d3, d4, _⟩ := hSw); go_simp; try with_reducible rfl
    try simp only [Act.put, List.setIfInBounds_toArray, List.set_cons_zero, List.set_cons_succ, hfb]
    refine wpAnyH_take (i := 2) (oi := { dst := some 17, op := Go.Op.binOp Go.BinOp.neq 58 (Go.Operand.tmp 16) (Go.Operand.const (Go.Value.int Go.IntKind.u8 2)) 58, type := 4, pos := "law.go:54", after := #[{ on := 1, ground := Go.Ground.data }], guard := none }) (v := ?_) rfl (by kernel_rfl) (by kernel_rfl) (by kernel_rfl) (fun _ _ _ h => h) (Or.inl ⟨by rfl, ?_⟩) (by assumption) ?_
    rotate_left 1
    · intro w hSw; (obtain ⟨d0, d1, d2, d3, d4, _⟩ := hSw); go_simp; try with_reducible rfl
    try simp only [Act.put, List.setIfInBounds_toArray, List.set_cons_zero, List.set_cons_succ, hfb]
    refine wpAnyH_take (i := 3) (oi := { dst := some 18, op := Go.Op.move (Go.Operand.tmp 17), type := 4, pos := "law.go:54", after := #[{ on := 2, ground := Go.Ground.data }], guard := none }) (v := ?_) rfl (by kernel_rfl) (by kernel_rfl) (by kernel_rfl) (fun _ _ _ h => h) (Or.inl ⟨by rfl, ?_⟩) (by assumption) ?_
    rotate_left 1
    · intro w hSw; (obtain ⟨d0, d1, d2, d3, d4, _⟩ := hSw); go_simp; try with_reducible rfl
    try simp only [Act.put, List.setIfInBounds_toArray, List.set_cons_zero, List.set_cons_succ, hfb]
    refine wpAnyH_take (i := 4) (oi := { dst := some 19, op := Go.Op.load 60 (Go.Operand.tmp 9), type := 60, pos := "law.go:54", after := #[{ on := 3, ground := Go.Ground.guard }], guard := some (3, true) }) (v := ?_) rfl (by kernel_rfl) (by kernel_rfl) (by kernel_rfl) (fun _ _ _ h => h) (Or.inl ⟨by rfl, ?_⟩) (by assumption) ?_
    rotate_left 1
    · intro w hSw; (obtain ⟨d0, d1, d2, d3, d4, _⟩ := hSw); go_simp; try with_reducible rfl
    try simp only [Act.put, List.setIfInBounds_toArray, List.set_cons_zero, List.set_cons_succ, hfb]
    refine wpAnyH_take (i := 5) (oi := { dst := some 20, op := Go.Op.load 57 (Go.Operand.tmp 5), type := 57, pos := "law.go:54", after := #[{ on := 3, ground := Go.Ground.guard }], guard := some (3, true) }) (v := ?_) rfl (by kernel_rfl) (by kernel_rfl) (by kernel_rfl) (fun _ _ _ h => h) (Or.inl ⟨by rfl, ?_⟩) (by assumption) ?_
    rotate_left 1
    · intro w hSw; (obtain ⟨d0, d1, d2, d3, d4, _⟩ := hSw); go_simp; try with_reducible rfl
    try simp only [Act.put, List.setIfInBounds_toArray, List.set_cons_zero, List.set_cons_succ, hfb]
    refine wpAnyH_take (i := 6) (oi := { dst := some 21, op := Go.Op.move (Go.Operand.tmp 2), type := 54, pos := "law.go:54", after := #[{ on := 3, ground := Go.Ground.guard }], guard := some (3, true) }) (v := ?_) rfl (by kernel_rfl) (by kernel_rfl) (by kernel_rfl) (fun _ _ _ h => h) (Or.inl ⟨by rfl, ?_⟩) (by assumption) ?_
    rotate_left 1
    · intro w hSw; (obtain ⟨d0, d1, d2, d3, d4, _⟩ := hSw); go_simp; try with_reducible rfl
    try simp only [Act.put, List.setIfInBounds_toArray, List.set_cons_zero, List.set_cons_succ, hfb]
    refine wpAnyH_take (i := 7) (oi := { dst := some 22, op := Go.Op.fieldAddr 60 (Go.Operand.tmp 9) 3, type := 0, pos := "law.go:54", after := #[{ on := 3, ground := Go.Ground.guard }], guard := some (3, true) }) (v := ?_) rfl (by kernel_rfl) (by kernel_rfl) (by kernel_rfl) (fun _ _ _ h => h) (Or.inl ⟨by rfl, ?_⟩) (by assumption) ?_
    rotate_left 1
    · intro w hSw; (obtain ⟨d0, d1, d2, d3, d4, _⟩ := hSw); go_simp; try with_reducible rfl
    try simp only [Act.put, List.setIfInBounds_toArray, List.set_cons_zero, List.set_cons_succ, hfb]
    refine wpAnyH_take (i := 8) (oi := { dst := some 23, op := Go.Op.load 3 (Go.Operand.tmp 22), type := 3, pos := "law.go:54", after := #[{ on := 7, ground := Go.Ground.data }, { on := 3, ground := Go.Ground.guard }], guard := some (3, true) }) (v := ?_) rfl (by kernel_rfl) (by kernel_rfl) (by kernel_rfl) (fun _ _ _ h => h) (Or.inl ⟨by rfl, ?_⟩) (by assumption) ?_
    rotate_left 1
    · intro w hSw; (obtain ⟨d0, d1, d2, d3, d4, _⟩ := hSw); go_simp; try with_reducible rfl
    try simp only [Act.put, List.setIfInBounds_toArray, List.set_cons_zero, List.set_cons_succ, hfb]
    refine wpAnyH_take (i := 9) (oi := { dst := some 24, op := Go.Op.binOp Go.BinOp.add 3 (Go.Operand.tmp 23) (Go.Operand.const (Go.Value.int Go.IntKind.i64 1)) 3, type := 3, pos := "law.go:54", after := #[{ on := 8, ground := Go.Ground.data }, { on := 3, ground := Go.Ground.guard }], guard := some (3, true) }) (v := ?_) rfl (by kernel_rfl) (by kernel_rfl) (by kernel_rfl) (fun _ _ _ h => h) (Or.inl ⟨by rfl, ?_⟩) (by assumption) ?_
    rotate_left 1
    · intro w hSw; (obtain ⟨d0, d1, d2, d3, d4, _⟩ := hSw); go_simp; try with_reducible rfl
    try simp only [Act.put, List.setIfInBounds_toArray, List.set_cons_zero, List.set_cons_succ, hfb]
    refine wpAnyH_take (i := 10) (oi := { dst := some 25, op := Go.Op.load 57 (Go.Operand.tmp 5), type := 57, pos := "law.go:54", after := #[{ on := 3, ground := Go.Ground.guard }], guard := some (3, true) }) (v := ?_) rfl (by kernel_rfl) (by kernel_rfl) (by kernel_rfl) (fun _ _ _ h => h) (Or.inl ⟨by rfl, ?_⟩) (by assumption) ?_
    rotate_left 1
    · intro w hSw; (obtain ⟨d0, d1, d2, d3, d4, _⟩ := hSw); go_simp; try with_reducible rfl
    try simp only [Act.put, List.setIfInBounds_toArray, List.set_cons_zero, List.set_cons_succ, hfb]
    refine wpAnyH_ready (rs := [11]) (by kernel_rfl) (by simp) ?_
    refine AllReadyH.cons (o := { dst := some 26, op := Go.Op.call { callee := Go.Callee.value (Go.Operand.func 78), args := #[Go.Operand.tmp 25], argTypes := #[57] }, type := 3, pos := "law.go:54", after := #[{ on := 10, ground := Go.Ground.data }, { on := 3, ground := Go.Ground.chain }, { on := 3, ground := Go.Ground.guard }], guard := some (3, true) }) rfl (fun K hK => ?_) AllReadyH.nil
    go_simp
    refine (countR_calls q _ _ (AlS.boxed (by assumption)).r2 (by omega)).mono ?_
    rintro e w1 ⟨rfl, hb1⟩
    go_wp2_with fail
    refine hK.out _ _ ?_ (fun hHeld1 => ?_)
    · (try dsimp only); (first | exact hS1 | (refine AlS.later (by assumption) ?_; assumption))
    clear hK K hHeld
    try simp only [Act.put, List.setIfInBounds_toArray, List.set_cons_zero, List.set_cons_succ, hfb]
    refine wpAnyH_take (i := 12) (oi := { dst := some 27, op := Go.Op.binOp Go.BinOp.add 3 (Go.Operand.tmp 26) (Go.Operand.const (Go.Value.int Go.IntKind.i64 1)) 3, type := 3, pos := "law.go:54", after := #[{ on := 11, ground := Go.Ground.data }, { on := 3, ground := Go.Ground.guard }], guard := some (3, true) }) (v := ?_) rfl (by kernel_rfl) (by kernel_rfl) (by kernel_rfl) (fun _ _ _ h => h) (Or.inl ⟨by rfl, ?_⟩) (by assumption) ?_
    rotate_left 1
    · intro w hSw; (obtain ⟨d0, d1, d2, d3, d4, _⟩ := hSw); go_simp; try with_reducible rfl
    try simp only [Act.put, List.setIfInBounds_toArray, List.set_cons_zero, List.set_cons_succ, hfb]
    refine wpAnyH_take (i := 13) (oi := { dst := some 28, op := Go.Op.binOp Go.BinOp.mul 3 (Go.Operand.tmp 24) (Go.Operand.tmp 27) 3, type := 3, pos := "law.go:54", after := #[{ on := 9, ground := Go.Ground.data }, { on := 12, ground := Go.Ground.data }, { on := 3, ground := Go.Ground.guard }], guard := some (3, true) }) (v := ?_) rfl (by kernel_rfl) (by kernel_rfl) (by kernel_rfl) (fun _ _ _ h => h) (Or.inl ⟨by rfl, ?_⟩) (by assumption) ?_
    rotate_left 1
    · intro w hSw; (obtain ⟨d0, d1, d2, d3, d4, _⟩ := hSw); go_simp; try with_reducible rfl
    try simp only [Act.put, List.setIfInBounds_toArray, List.set_cons_zero, List.set_cons_succ, hfb]
    refine wpAnyH_ready (rs := [14]) (by kernel_rfl) (by simp) ?_
    refine AllReadyH.cons (o := { dst := some 29, op := Go.Op.call { callee := Go.Callee.value (Go.Operand.func 29), args := #[Go.Operand.tmp 20, Go.Operand.tmp 21, Go.Operand.tmp 28], argTypes := #[57, 54, 3] }, type := 60, pos := "law.go:54", after := #[{ on := 5, ground := Go.Ground.data }, { on := 6, ground := Go.Ground.data }, { on := 13, ground := Go.Ground.data }, { on := 11, ground := Go.Ground.chain }, { on := 3, ground := Go.Ground.guard }], guard := some (3, true) }) rfl (fun K hK => ?_) AllReadyH.nil
    go_simp
    refine (runR_calls q _ Ai ci inp F2 _ hm2 (AlS.boxed (by assumption)).r2 (by omega) rq.bare (AlS.boxed (by assumption)).inp hci).mono ?_
    rintro e w2 ⟨v2, rfl, hv2, hb2⟩
    rw [HO2.out.2] at hv2
    go_wp2_with fail
    refine hK.out _ _ ?_ (fun hHeld2 => ?_)
    · (try dsimp only); (first | exact hS1 | (refine AlS.later (by assumption) ?_; assumption))
    clear hK K hHeld1
    try simp only [Act.put, List.setIfInBounds_toArray, List.set_cons_zero, List.set_cons_succ, hfb]
    refine wpAnyH_ready (rs := [15]) (by kernel_rfl) (by simp) ?_
    refine AllReadyH.cons (o := { dst := some 30, op := Go.Op.call { callee := Go.Callee.value (Go.Operand.func 33), args := #[Go.Operand.tmp 19, Go.Operand.tmp 29], argTypes := #[60, 60] }, type := 4, pos := "law.go:54", after := #[{ on := 4, ground := Go.Ground.data }, { on := 14, ground := Go.Ground.data }, { on := 14, ground := Go.Ground.chain }, { on := 3, ground := Go.Ground.guard }], guard := some (3, true) }) rfl (fun K hK => ?_) AllReadyH.nil
    go_simp
    refine (sameO_calls o _ _ _ _ (AlS.out (by assumption)) hv2 htl).mono ?_
    rintro e w3 ⟨rfl, hb3⟩
    go_wp2_with fail
    refine hK.out _ _ ?_ (fun hHeld3 => ?_)
    · (try dsimp only); (first | exact hS1 | (refine AlS.later (by assumption) ?_; assumption))
    clear hK K hHeld2
    try simp only [Act.put, List.setIfInBounds_toArray, List.set_cons_zero, List.set_cons_succ, hfb]
    refine wpAnyH_take (i := 16) (oi := { dst := some 31, op := Go.Op.unOp Go.UnOp.not 4 (Go.Operand.tmp 30), type := 4, pos := "law.go:54", after := #[{ on := 15, ground := Go.Ground.data }, { on := 3, ground := Go.Ground.guard }], guard := some (3, true) }) (v := ?_) rfl (by kernel_rfl) (by kernel_rfl) (by kernel_rfl) (fun _ _ _ h => h) (Or.inl ⟨by rfl, ?_⟩) (by assumption) ?_
    rotate_left 1
    · intro w hSw; (obtain ⟨d0, d1, d2, d3, d4, _⟩ := hSw); go_simp; try with_reducible rfl
    try simp only [Act.put, List.setIfInBounds_toArray, List.set_cons_zero, List.set_cons_succ, hfb]
    refine wpAnyH_take (i := 17) (oi := { dst := some 32, op := Go.Op.pick (Go.Operand.tmp 18) (Go.Operand.tmp 31) (Go.Operand.const (Go.Value.bool false)), type := 4, pos := "law.go:54", after := #[{ on := 3, ground := Go.Ground.data }, { on := 16, ground := Go.Ground.data }], guard := none }) (v := ?_) rfl (by kernel_rfl) (by kernel_rfl) (by kernel_rfl) (fun _ _ _ h => h) (Or.inl ⟨by rfl, ?_⟩) (by assumption) ?_
    rotate_left 1
    · intro w hSw; (obtain ⟨d0, d1, d2, d3, d4, _⟩ := hSw); go_simp; try with_reducible rfl
    try simp only [Act.put, List.setIfInBounds_toArray, List.set_cons_zero, List.set_cons_succ, hfb]
    refine wpAnyH_done (by kernel_rfl) ?_ _
    cases hsm : sameO o o2 with
    | false =>
      have hbel := (hHeld3).boxed.below
      clear hHeld3 hS1
      simp only [Bool.not_true, Bool.not_false]
      go_wp2_with fail
      go_ret
      refine ⟨?_, hbel⟩
      unfold alikeB
      rw [HO.out, HO2.out.1, HO2.out.2, if_pos ⟨HF.out, hsm⟩]
      rfl
    | true =>
      simp only [Bool.not_true, Bool.not_false]
      have HSM := Lib.hid hsm
      clear hsm
      have hZ := hHeld3
      clear hHeld3 hb1 hb2 hb3 hv2
      generalize w3 = Z at *
      have HB := Lib.hid hZ.boxed
      have z1 := cell_of_blk _ _ _ _ _ hZ.boxed.b2 0
      clear hZ hS1 hmw hfb
      go_wp2_with fail
      clear z1
      refine (runR_calls q _ Ai ci inp n Z (by omega) HB.out.r2 (by omega) rq.bare HB.out.inp hci).mono ?_
      rintro e W3 ⟨v, rfl, hv, hb3⟩
      obtain ⟨r, hr⟩ : ∃ r, runP q inp n = r := ⟨_, rfl⟩
      rw [hr] at hv
      obtain ⟨D, d, rfl, hd⟩ := hv
      have HR := Lib.hid hr
      have HB3 := Lib.hid (HB.out.later hb3)
      have HD := Lib.hid hd
      clear hb3 HB hr hd
      dsimp only [ov]
      go_upto_region 5 with (fail)
      refine wp_named fun V hV => ?_
      have hbV : Below W3.heap.size W3 V := hV ▸ (Below.refl _ _).alloc (Nat.le_refl _) _
      have hg : V.heap[W3.heap.size]? = some (.cells #[.int .u8 r.fin, .int .i64 r.val, .slice D r.trace.length d, .int .i64 r.steps] 60 (0, 0)) := hV ▸ heap_alloc_new W3 _
      have hXV := HB3.out.later hbV
      have hSt : AlS W p q A1 A2 c1 c2 Ai inp r (.slice A1 p.length c1) D d W3.heap.size W.heap.size V :=
        ⟨cell_of_blk _ _ _ _ _ hg 0, cell_of_blk _ _ _ _ _ hg 1, cell_of_blk _ _ _ _ _ hg 2, cell_of_blk _ _ _ _ _ hg 3, cell_of_blk _ _ _ _ _ hXV.b1 0, Lib.hid ⟨hXV, ⟨D, d, rfl, HD.out.1, Kd.C_below HD.out.2 hbV⟩⟩⟩
      have hes := runP_ext q inp n (by omega)
      rw [HR.out] at hes
      have hst2 : r.steps ≤ 1023 := by omega
      have htl2 : r.trace.length ≤ 1023 := by omega
      have hS1 := hSt.later (below_drewN V 1)
      clear hV hbV hg hXV HB3 HD hes hSt
      generalize W3.heap.size = g3 at *
      obtain ⟨F3, hF3⟩ : ∃ F3, (r.steps + 1) * (countP p + 1) = F3 := ⟨_, rfl⟩
      have hmw := mul_wrap r.steps (countP p) hst2 hcp
      rw [hF3] at hmw
      obtain ⟨hmw, hm3⟩ := hmw
      obtain ⟨r2, hr2⟩ : ∃ r2, runP p inp F3 = r2 := ⟨_, rfl⟩
      have HR2 := Lib.hid (And.intro hF3 hr2)
      clear hF3 hr2
      by_cases hf : r.fin = 2
      · have hfb : (r.fin == 2) = true := beq_iff_eq.mpr hf
        have HF5 := Lib.hid hf
        clear hf
        refine wp_region_held_drew (S := (AlS W p q A1 A2 c1 c2 Ai inp r (.slice A1 p.length c1) D d g3 W.heap.size)) (by kernel_rfl) (by (first | exact hS1 | (refine AlS.later (by assumption) ?_; assumption))) (fun hHeld => ?_)
        refine wpAnyH_take (i := 0) (oi := { dst := some 37, op := Go.Op.fieldAddr 60 (Go.Operand.tmp 10) 0, type := 0, pos := "law.go:58", after := #[], guard := none }) (v := ?_) rfl (by kernel_rfl) (by kernel_rfl) (by kernel_rfl) (fun _ _ _ h => h) (Or.inl ⟨by rfl, ?_⟩) (by assumption) ?_
        rotate_left 1
        · intro w hSw; (obtain ⟨d0, d1, d2, d3, d4, _⟩ := hSw); go_simp; try with_reducible rfl
        try simp only [Act.put, List.setIfInBounds_toArray, List.set_cons_zero, List.set_cons_succ, hfb]
        refine wpAnyH_take (i := 1) (oi := { dst := some 38, op := Go.Op.load 58 (Go.Operand.tmp 37), type := 58, pos := "law.go:58", after := #[{ on := 0, ground := Go.Ground.data }], guard := none }) (v := ?_) rfl (by kernel_rfl) (by kernel_rfl) (by kernel_rfl) (fun _ _ _ h => h) (Or.inl ⟨by rfl, ?_⟩) (by assumption) ?_
        rotate_left 1
        · intro w hSw; (obtain ⟨d0, d1, d2, d3, d4, _⟩ := hSw); go_simp; try with_reducible rfl
        try simp only [Act.put, List.setIfInBounds_toArray, List.set_cons_zero, List.set_cons_succ, hfb]
        refine wpAnyH_take (i := 2) (oi := { dst := some 39, op := Go.Op.binOp Go.BinOp.eql 58 (Go.Operand.tmp 38) (Go.Operand.const (Go.Value.int Go.IntKind.u8 2)) 58, type := 4, pos := "law.go:58", after := #[{ on := 1, ground := Go.Ground.data }], guard := none }) (v := ?_) rfl (by kernel_rfl) (by kernel_rfl) (by kernel_rfl) (fun _ _ _ h => h) (Or.inl ⟨by rfl, ?_⟩) (by assumption) ?_
        rotate_left 1
        · intro w hSw; (obtain ⟨d0, d1, d2, d3, d4, _⟩ := hSw); go_simp; try with_reducible rfl
        try simp only [Act.put, List.setIfInBounds_toArray, List.set_cons_zero, List.set_cons_succ, hfb]
        refine wpAnyH_take (i := 3) (oi := { dst := some 40, op := Go.Op.move (Go.Operand.tmp 39), type := 4, pos := "law.go:58", after := #[{ on := 2, ground := Go.Ground.data }], guard := none }) (v := ?_) rfl (by kernel_rfl) (by kernel_rfl) (by kernel_rfl) (fun _ _ _ h => h) (Or.inl ⟨by rfl, ?_⟩) (by assumption) ?_
        rotate_left 1
        · intro w hSw; (obtain ⟨d0, d1, d2, d3, d4, _⟩ := hSw); go_simp; try with_reducible rfl
        try simp only [Act.put, List.setIfInBounds_toArray, List.set_cons_zero, List.set_cons_succ, hfb]
        refine wpAnyH_take (i := 4) (oi := { dst := some 41, op := Go.Op.load 60 (Go.Operand.tmp 10), type := 60, pos := "law.go:58", after := #[{ on := 3, ground := Go.Ground.guard }], guard := some (3, false) }) (v := undef) rfl (by kernel_rfl) (by kernel_rfl) (by kernel_rfl) (fun _ _ _ h => h) (Or.inr ⟨by rfl, rfl⟩) (by assumption) ?_
        try simp only [Act.put, List.setIfInBounds_toArray, List.set_cons_zero, List.set_cons_succ, hfb]
        refine wpAnyH_take (i := 5) (oi := { dst := some 42, op := Go.Op.load 57 (Go.Operand.tmp 4), type := 57, pos := "law.go:58", after := #[{ on := 3, ground := Go.Ground.guard }], guard := some (3, false) }) (v := undef) rfl (by kernel_rfl) (by kernel_rfl) (by kernel_rfl) (fun _ _ _ h => h) (Or.inr ⟨by rfl, rfl⟩) (by assumption) ?_
        try simp only [Act.put, List.setIfInBounds_toArray, List.set_cons_zero, List.set_cons_succ, hfb]
        refine wpAnyH_take (i := 6) (oi := { dst := some 43, op := Go.Op.move (Go.Operand.tmp 2), type := 54, pos := "law.go:58", after := #[{ on := 3, ground := Go.Ground.guard }], guard := some (3, false) }) (v := undef) rfl (by kernel_rfl) (by kernel_rfl) (by kernel_rfl) (fun _ _ _ h => h) (Or.inr ⟨by rfl, rfl⟩) (by assumption) ?_
        try simp only [Act.put, List.setIfInBounds_toArray, List.set_cons_zero, List.set_cons_succ, hfb]
        refine wpAnyH_take (i := 7) (oi := { dst := some 44, op := Go.Op.fieldAddr 60 (Go.Operand.tmp 10) 3, type := 0, pos := "law.go:58", after := #[{ on := 3, ground := Go.Ground.guard }], guard := some (3, false) }) (v := undef) rfl (by kernel_rfl) (by kernel_rfl) (by kernel_rfl) (fun _ _ _ h => h) (Or.inr ⟨by rfl, rfl⟩) (by assumption) ?_
        try simp only [Act.put, List.setIfInBounds_toArray, List.set_cons_zero, List.set_cons_succ, hfb]
        refine wpAnyH_take (i := 8) (oi := { dst := some 45, op := Go.Op.load 3 (Go.Operand.tmp 44), type := 3, pos := "law.go:58", after := #[{ on := 7, ground := Go.Ground.data }, { on := 3, ground := Go.Ground.guard }], guard := some (3, false) }) (v := undef) rfl (by kernel_rfl) (by kernel_rfl) (by kernel_rfl) (fun _ _ _ h => h) (Or.inr ⟨by rfl, rfl⟩) (by assumption) ?_
        try simp only [Act.put, List.setIfInBounds_toArray, List.set_cons_zero, List.set_cons_succ, hfb]
        refine wpAnyH_take (i := 9) (oi := { dst := some 46, op := Go.Op.binOp Go.BinOp.add 3 (Go.Operand.tmp 45) (Go.Operand.const (Go.Value.int Go.IntKind.i64 1)) 3, type := 3, pos := "law.go:58", after := #[{ on := 8, ground := Go.Ground.data }, { on := 3, ground := Go.Ground.guard }], guard := some (3, false) }) (v := undef) rfl (by kernel_rfl) (by kernel_rfl) (by kernel_rfl) (fun _ _ _ h => h) (Or.inr ⟨by rfl, rfl⟩) (by assumption) ?_
        try simp only [Act.put, List.setIfInBounds_toArray, List.set_cons_zero, List.set_cons_succ, hfb]
        refine wpAnyH_take (i := 10) (oi := { dst := some 47, op := Go.Op.load 57 (Go.Operand.tmp 4), type := 57, pos := "law.go:58", after := #[{ on := 3, ground := Go.Ground.guard }], guard := some (3, false) }) (v := undef) rfl (by kernel_rfl) (by kernel_rfl) (by kernel_rfl) (fun _ _ _ h => h) (Or.inr ⟨by rfl, rfl⟩) (by assumption) ?_
        try simp only [Act.put, List.setIfInBounds_toArray, List.set_cons_zero, List.set_cons_succ, hfb]
        refine wpAnyH_take (i := 11) (oi := { dst := some 48, op := Go.Op.call { callee := Go.Callee.value (Go.Operand.func 78), args := #[Go.Operand.tmp 47], argTypes := #[57] }, type := 3, pos := "law.go:58", after := #[{ on := 10, ground := Go.Ground.data }, { on := 3, ground := Go.Ground.chain }, { on := 3, ground := Go.Ground.guard }], guard := some (3, false) }) (v := undef) rfl (by kernel_rfl) (by kernel_rfl) (by kernel_rfl) (fun _ _ _ h => h) (Or.inr ⟨by rfl, rfl⟩) (by assumption) ?_
        try simp only [Act.put, List.setIfInBounds_toArray, List.set_cons_zero, List.set_cons_succ, hfb]
        refine wpAnyH_take (i := 12) (oi := { dst := some 49, op := Go.Op.binOp Go.BinOp.add 3 (Go.Operand.tmp 48) (Go.Operand.const (Go.Value.int Go.IntKind.i64 1)) 3, type := 3, pos := "law.go:58", after := #[{ on := 11, ground := Go.Ground.data }, { on := 3, ground := Go.Ground.guard }], guard := some (3, false) }) (v := undef) rfl (by kernel_rfl) (by kernel_rfl) (by kernel_rfl) (fun _ _ _ h => h) (Or.inr ⟨by rfl, rfl⟩) (by assumption) ?_
        try simp only [Act.put, List.setIfInBounds_toArray, List.set_cons_zero, List.set_cons_succ, hfb]
        refine wpAnyH_take (i := 13) (oi := { dst := some 50, op := Go.Op.binOp Go.BinOp.mul 3 (Go.Operand.tmp 46) (Go.Operand.tmp 49) 3, type := 3, pos := "law.go:58", after := #[{ on := 9, ground := Go.Ground.data }, { on := 12, ground := Go.Ground.data }, { on := 3, ground := Go.Ground.guard }], guard := some (3, false) }) (v := undef) rfl (by kernel_rfl) (by kernel_rfl) (by kernel_rfl) (fun _ _ _ h => h) (Or.inr ⟨by rfl, rfl⟩) (by assumption) ?_
        try simp only [Act.put, List.setIfInBounds_toArray, List.set_cons_zero, List.set_cons_succ, hfb]
        refine wpAnyH_take (i := 14) (oi := { dst := some 51, op := Go.Op.call { callee := Go.Callee.value (Go.Operand.func 29), args := #[Go.Operand.tmp 42, Go.Operand.tmp 43, Go.Operand.tmp 50], argTypes := #[57, 54, 3] }, type := 60, pos := "law.go:58", after := #[{ on := 5, ground := Go.Ground.data }, { on := 6, ground := Go.Ground.data }, { on := 13, ground := Go.Ground.data }, { on := 11, ground := Go.Ground.chain }, { on := 3, ground := Go.Ground.guard }], guard := some (3, false) }) (v := undef) rfl (by kernel_rfl) (by kernel_rfl) (by kernel_rfl) (fun _ _ _ h => h) (Or.inr ⟨by rfl, rfl⟩) (by assumption) ?_
        try simp only [Act.put, List.setIfInBounds_toArray, List.set_cons_zero, List.set_cons_succ, hfb]
        refine wpAnyH_take (i := 15) (oi := { dst := some 52, op := Go.Op.call { callee := Go.Callee.value (Go.Operand.func 33), args := #[Go.Operand.tmp 41, Go.Operand.tmp 51], argTypes := #[60, 60] }, type := 4, pos := "law.go:58", after := #[{ on := 4, ground := Go.Ground.data }, { on := 14, ground := Go.Ground.data }, { on := 14, ground := Go.Ground.chain }, { on := 3, ground := Go.Ground.guard }], guard := some (3, false) }) (v := undef) rfl (by kernel_rfl) (by kernel_rfl) (by kernel_rfl) (fun _ _ _ h => h) (Or.inr ⟨by rfl, rfl⟩) (by assumption) ?_
        try simp only [Act.put, List.setIfInBounds_toArray, List.set_cons_zero, List.set_cons_succ, hfb]
        refine wpAnyH_take (i := 16) (oi := { dst := some 53, op := Go.Op.pick (Go.Operand.tmp 40) (Go.Operand.const (Go.Value.bool true)) (Go.Operand.tmp 52), type := 4, pos := "law.go:58", after := #[{ on := 3, ground := Go.Ground.data }, { on := 15, ground := Go.Ground.data }], guard := none }) (v := ?_) rfl (by kernel_rfl) (by kernel_rfl) (by kernel_rfl) (fun _ _ _ h => h) (Or.inl ⟨by rfl, ?_⟩) (by assumption) ?_
        rotate_left 1
        · intro w hSw; (obtain ⟨d0, d1, d2, d3, d4, _⟩ := hSw); go_simp; try with_reducible rfl
        try simp only [Act.put, List.setIfInBounds_toArray, List.set_cons_zero, List.set_cons_succ, hfb]
        refine wpAnyH_take (i := 17) (oi := { dst := some 8, op := Go.Op.assign (Go.Operand.tmp 53), type := 4, pos := "law.go:58", after := #[{ on := 16, ground := Go.Ground.data }, { on := 15, ground := Go.Ground.chain }, { on := 0, ground := Go.Ground.phase }, { on := 1, ground := Go.Ground.phase }, { on := 2, ground := Go.Ground.phase }, { on := 3, ground := Go.Ground.phase }, { on := 4, ground := Go.Ground.phase }, { on := 5, ground := Go.Ground.phase }, { on := 6, ground := Go.Ground.phase }, { on := 7, ground := Go.Ground.phase }, { on := 8, ground := Go.Ground.phase }, { on := 9, ground := Go.Ground.phase }, { on := 10, ground := Go.Ground.phase }, { on := 11, ground := Go.Ground.phase }, { on := 12, ground := Go.Ground.phase }, { on := 13, ground := Go.Ground.phase }, { on := 14, ground := Go.Ground.phase }, { on := 15, ground := Go.Ground.phase }, { on := 16, ground := Go.Ground.phase }], guard := none }) (v := ?_) rfl (by kernel_rfl) (by kernel_rfl) (by kernel_rfl) (fun _ _ _ h => h) (Or.inl ⟨by rfl, ?_⟩) (by assumption) ?_
        rotate_left 1
        · intro w hSw; (obtain ⟨d0, d1, d2, d3, d4, _⟩ := hSw); go_simp; try with_reducible rfl
        try simp only [Act.put, List.setIfInBounds_toArray, List.set_cons_zero, List.set_cons_succ, hfb]
        refine wpAnyH_done (by kernel_rfl) ?_ _
        have hbel := hHeld.boxed.below
        clear hHeld hS1
        go_wp2_with fail
        go_ret
        refine ⟨?_, hbel⟩
        unfold alikeB
        rw [HO.out, HO2.out.1, HO2.out.2, HR.out, if_neg]
        · simp [HF5.out]
        · simp [HSM.out]
      · have hfb : (r.fin == 2) = false := beq_eq_false_iff_ne.mpr hf
        have HF5 := Lib.hid hf
        clear hf
        refine wp_region_held_drew (S := (AlS W p q A1 A2 c1 c2 Ai inp r (.slice A1 p.length c1) D d g3 W.heap.size)) (by kernel_rfl) (by (first | exact hS1 | (refine AlS.later (by assumption) ?_; assumption))) (fun hHeld => ?_)
        refine wpAnyH_take (i := 0) (oi := { dst := some 37, op := Go.Op.fieldAddr 60 (Go.Operand.tmp 10) 0, type := 0, pos := "law.go:58", after := #[], guard := none }) (v := ?_) rfl (by kernel_rfl) (by kernel_rfl) (by kernel_rfl) (fun _ _ _ h => h) (Or.inl ⟨by rfl, ?_⟩) (by assumption) ?_
        rotate_left 1
        · intro w hSw; (obtain ⟨d0, d1, d2, d3, d4, _⟩ := hSw); go_simp; try with_reducible rfl
        try simp only [Act.put, List.setIfInBounds_toArray, List.set_cons_zero, List.set_cons_succ, hfb]
        refine wpAnyH_take (i := 1) (oi := { dst := some 38, op := Go.Op.load 58 (Go.Operand.tmp 37), type := 58, pos := "law.go:58", after := #[{ on := 0, ground := Go.Ground.data }], guard := none }) (v := ?_) rfl (by kernel_rfl) (by kernel_rfl) (by kernel_rfl) (fun _ _ _ h => h) (Or.inl ⟨by rfl, ?_⟩) (by assumption) ?_
        rotate_left 1
        · intro w hSw; (obtain ⟨d0, d1, d2, d3, d4, _⟩ := hSw); go_simp; try with_reducible rfl
        try simp only [Act.put, List.setIfInBounds_toArray, List.set_cons_zero, List.set_cons_succ, hfb]
        refine wpAnyH_take (i := 2) (oi := { dst := some 39, op := Go.Op.binOp Go.BinOp.eql 58 (Go.Operand.tmp 38) (Go.Operand.const (Go.Value.int Go.IntKind.u8 2)) 58, type := 4, pos := "law.go:58", after := #[{ on := 1, ground := Go.Ground.data }], guard := none }) (v := ?_) rfl (by kernel_rfl) (by kernel_rfl) (by kernel_rfl) (fun _ _ _ h => h) (Or.inl ⟨by rfl, ?_⟩) (by assumption) ?_
        rotate_left 1
        · intro w hSw; (obtain ⟨d0, d1, d2, d3, d4, _⟩ := hSw); go_simp; try with_reducible rfl
        try simp only [Act.put, List.setIfInBounds_toArray, List.set_cons_zero, List.set_cons_succ, hfb]
        refine wpAnyH_take (i := 3) (oi := { dst := some 40, op := Go.Op.move (Go.Operand.tmp 39), type := 4, pos := "law.go:58", after := #[{ on := 2, ground := Go.Ground.data }], guard := none }) (v := ?_) rfl (by kernel_rfl) (by kernel_rfl) (by kernel_rfl) (fun _ _ _ h => h) (Or.inl ⟨by rfl, ?_⟩) (by assumption) ?_
        rotate_left 1
        · intro w hSw; (obtain ⟨d0, d1, d2, d3, d4, _⟩ := hSw); go_simp; try with_reducible rfl
        try simp only [Act.put, List.setIfInBounds_toArray, List.set_cons_zero, List.set_cons_succ, hfb]
        refine wpAnyH_take (i := 4) (oi := { dst := some 41, op := Go.Op.load 60 (Go.Operand.tmp 10), type := 60, pos := "law.go:58", after := #[{ on := 3, ground := Go.Ground.guard }], guard := some (3, false) }) (v := ?_) rfl (by kernel_rfl) (by kernel_rfl) (by kernel_rfl) (fun _ _ _ h => h) (Or.inl ⟨by rfl, ?_⟩) (by assumption) ?_
        rotate_left 1
        · intro w hSw; (obtain ⟨d0, d1, d2, d3, d4, _⟩ := hSw); go_simp; try with_reducible rfl
        try simp only [Act.put, List.setIfInBounds_toArray, List.set_cons_zero, List.set_cons_succ, hfb]
        refine wpAnyH_take (i := 5) (oi := { dst := some 42, op := Go.Op.load 57 (Go.Operand.tmp 4), type := 57, pos := "law.go:58", after := #[{ on := 3, ground := Go.Ground.guard }], guard := some (3, false) }) (v := ?_) rfl (by kernel_rfl) (by kernel_rfl) (by kernel_rfl) (fun _ _ _ h => h) (Or.inl ⟨by rfl, ?_⟩) (by assumption) ?_
        rotate_left 1
        · intro w hSw; (obtain ⟨d0, d1, d2, d3, d4, _⟩ := hSw); go_simp; try with_reducible rfl
        try simp only [Act.put, List.setIfInBounds_toArray, List.set_cons_zero, List.set_cons_succ, hfb]
        refine wpAnyH_take (i := 6) (oi := { dst := some 43, op := Go.Op.move (Go.Operand.tmp 2), type := 54, pos := "law.go:58", after := #[{ on := 3, ground := Go.Ground.guard }], guard := some (3, false) }) (v := ?_) rfl (by kernel_rfl) (by kernel_rfl) (by kernel_rfl) (fun _ _ _ h => h) (Or.inl ⟨by rfl, ?_⟩) (by assumption) ?_
        rotate_left 1
        · intro w hSw; (obtain ⟨d0, d1, d2, d3, d4, _⟩ := hSw); go_simp; try with_reducible rfl
        try simp only [Act.put, List.setIfInBounds_toArray, List.set_cons_zero, List.set_cons_succ, hfb]
        refine wpAnyH_take (i := 7) (oi := { dst := some 44, op := Go.Op.fieldAddr 60 (Go.Operand.tmp 10) 3, type := 0, pos := "law.go:58", after := #[{ on := 3, ground := Go.Ground.guard }], guard := some (3, false) }) (v := ?_) rfl (by kernel_rfl) (by kernel_rfl) (by kernel_rfl) (fun _ _ _ h => h) (Or.inl ⟨by rfl, ?_⟩) (by assumption) ?_
        rotate_left 1
        · intro w hSw; (obtain ⟨d0, d1, d2, d3, d4, _⟩ := hSw); go_simp; try with_reducible rfl
        try simp only [Act.put, List.setIfInBounds_toArray, List.set_cons_zero, List.set_cons_succ, hfb]
        refine wpAnyH_take (i := 8) (oi := { dst := some 45, op := Go.Op.load 3 (Go.Operand.tmp 44), type := 3, pos := "law.go:58", after := #[{ on := 7, ground := Go.Ground.data }, { on := 3, ground := Go.Ground.guard }], guard := some (3, false) }) (v := ?_) rfl (by kernel_rfl) (by kernel_rfl) (by kernel_rfl) (fun _ _ _ h => h) (Or.inl ⟨by rfl, ?_⟩) (by assumption) ?_
        rotate_left 1
        · intro w hSw; (obtain ⟨d0, d1, d2, d3, d4, _⟩ := hSw); go_simp; try with_reducible rfl
        try simp only [Act.put, List.setIfInBounds_toArray, List.set_cons_zero, List.set_cons_succ, hfb]
        refine wpAnyH_take (i := 9) (oi := { dst := some 46, op := Go.Op.binOp Go.BinOp.add 3 (Go.Operand.tmp 45) (Go.Operand.const (Go.Value.int Go.IntKind.i64 1)) 3, type := 3, pos := "law.go:58", after := #[{ on := 8, ground := Go.Ground.data }, { on := 3, ground := Go.Ground.guard }], guard := some (3, false) }) (v := ?_) rfl (by kernel_rfl) (by kernel_rfl) (by kernel_rfl) (fun _ _ _ h => h) (Or.inl ⟨by rfl, ?_⟩) (by assumption) ?_
        rotate_left 1
        · intro w hSw; (obtain ⟨d0, d1, d2, d3, d4, _⟩ := hSw); go_simp; try with_reducible rfl
        try simp only [Act.put, List.setIfInBounds_toArray, List.set_cons_zero, List.set_cons_succ, hfb]
        refine wpAnyH_take (i := 10) (oi := { dst := some 47, op := Go.Op.load 57 (Go.Operand.tmp 4), type := 57, pos := "law.go:58", after := #[{ on := 3, ground := Go.Ground.guard }], guard := some (3, false) }) (v := ?_) rfl (by kernel_rfl) (by kernel_rfl) (by kernel_rfl) (fun _ _ _ h => h) (Or.inl ⟨by rfl, ?_⟩) (by assumption) ?_
        rotate_left 1
        · intro w hSw; (obtain ⟨d0, d1, d2, d3, d4, _⟩ := hSw); go_simp; try with_reducible rfl
        try simp only [Act.put, List.setIfInBounds_toArray, List.set_cons_zero, List.set_cons_succ, hfb]
        refine wpAnyH_ready (rs := [11]) (by kernel_rfl) (by simp) ?_
        refine AllReadyH.cons (o := { dst := some 48, op := Go.Op.call { callee := Go.Callee.value (Go.Operand.func 78), args := #[Go.Operand.tmp 47], argTypes := #[57] }, type := 3, pos := "law.go:58", after := #[{ on := 10, ground := Go.Ground.data }, { on := 3, ground := Go.Ground.chain }, { on := 3, ground := Go.Ground.guard }], guard := some (3, false) }) rfl (fun K hK => ?_) AllReadyH.nil
        go_simp
        refine (countR_calls p _ _ (AlS.boxed (by assumption)).r1 (by omega)).mono ?_
        rintro e w1 ⟨rfl, hb1⟩
        go_wp2_with fail
        refine hK.out _ _ ?_ (fun hHeld1 => ?_)
        · (try dsimp only); (first | exact hS1 | (refine AlS.later (by assumption) ?_; assumption))
        clear hK K hHeld
        try simp only [Act.put, List.setIfInBounds_toArray, List.set_cons_zero, List.set_cons_succ, hfb]
        refine wpAnyH_take (i := 12) (oi := { dst := some 49, op := Go.Op.binOp Go.BinOp.add 3 (Go.Operand.tmp 48) (Go.Operand.const (Go.Value.int Go.IntKind.i64 1)) 3, type := 3, pos := "law.go:58", after := #[{ on := 11, ground := Go.Ground.data }, { on := 3, ground := Go.Ground.guard }], guard := some (3, false) }) (v := ?_) rfl (by kernel_rfl) (by kernel_rfl) (by kernel_rfl) (fun _ _ _ h => h) (Or.inl ⟨by rfl, ?_⟩) (by assumption) ?_
        rotate_left 1
        · intro w hSw; (obtain ⟨d0, d1, d2, d3, d4, _⟩ := hSw); go_simp; try with_reducible rfl
        try simp only [Act.put, List.setIfInBounds_toArray, List.set_cons_zero, List.set_cons_succ, hfb]
        refine wpAnyH_take (i := 13) (oi := { dst := some 50, op := Go.Op.binOp Go.BinOp.mul 3 (Go.Operand.tmp 46) (Go.Operand.tmp 49) 3, type := 3, pos := "law.go:58", after := #[{ on := 9, ground := Go.Ground.data }, { on := 12, ground := Go.Ground.data }, { on := 3, ground := Go.Ground.guard }], guard := some (3, false) }) (v := ?_) rfl (by kernel_rfl) (by kernel_rfl) (by kernel_rfl) (fun _ _ _ h => h) (Or.inl ⟨by rfl, ?_⟩) (by assumption) ?_
        rotate_left 1
        · intro w hSw; (obtain ⟨d0, d1, d2, d3, d4, _⟩ := hSw); go_simp; try with_reducible rfl
        try simp only [Act.put, List.setIfInBounds_toArray, List.set_cons_zero, List.set_cons_succ, hfb]
        refine wpAnyH_ready (rs := [14]) (by kernel_rfl) (by simp) ?_
        refine AllReadyH.cons (o := { dst := some 51, op := Go.Op.call { callee := Go.Callee.value (Go.Operand.func 29), args := #[Go.Operand.tmp 42, Go.Operand.tmp 43, Go.Operand.tmp 50], argTypes := #[57, 54, 3] }, type := 60, pos := "law.go:58", after := #[{ on := 5, ground := Go.Ground.data }, { on := 6, ground := Go.Ground.data }, { on := 13, ground := Go.Ground.data }, { on := 11, ground := Go.Ground.chain }, { on := 3, ground := Go.Ground.guard }], guard := some (3, false) }) rfl (fun K hK => ?_) AllReadyH.nil
        go_simp
        refine (runR_calls p _ Ai ci inp F3 _ hm3 (AlS.boxed (by assumption)).r1 (by omega) rp.bare (AlS.boxed (by assumption)).inp hci).mono ?_
        rintro e w2 ⟨v2, rfl, hv2, hb2⟩
        rw [HR2.out.2] at hv2
        go_wp2_with fail
        refine hK.out _ _ ?_ (fun hHeld2 => ?_)
        · (try dsimp only); (first | exact hS1 | (refine AlS.later (by assumption) ?_; assumption))
        clear hK K hHeld1
        try simp only [Act.put, List.setIfInBounds_toArray, List.set_cons_zero, List.set_cons_succ, hfb]
        refine wpAnyH_ready (rs := [15]) (by kernel_rfl) (by simp) ?_
        refine AllReadyH.cons (o := { dst := some 52, op := Go.Op.call { callee := Go.Callee.value (Go.Operand.func 33), args := #[Go.Operand.tmp 41, Go.Operand.tmp 51], argTypes := #[60, 60] }, type := 4, pos := "law.go:58", after := #[{ on := 4, ground := Go.Ground.data }, { on := 14, ground := Go.Ground.data }, { on := 14, ground := Go.Ground.chain }, { on := 3, ground := Go.Ground.guard }], guard := some (3, false) }) rfl (fun K hK => ?_) AllReadyH.nil
        go_simp
        refine (sameO_calls r _ _ _ _ (AlS.out (by assumption)) hv2 htl2).mono ?_
        rintro e w3 ⟨rfl, hb3⟩
        go_wp2_with fail
        refine hK.out _ _ ?_ (fun hHeld3 => ?_)
        · (try dsimp only); (first | exact hS1 | (refine AlS.later (by assumption) ?_; assumption))
        clear hK K hHeld2
        try simp only [Act.put, List.setIfInBounds_toArray, List.set_cons_zero, List.set_cons_succ, hfb]
        refine wpAnyH_take (i := 16) (oi := { dst := some 53, op := Go.Op.pick (Go.Operand.tmp 40) (Go.Operand.const (Go.Value.bool true)) (Go.Operand.tmp 52), type := 4, pos := "law.go:58", after := #[{ on := 3, ground := Go.Ground.data }, { on := 15, ground := Go.Ground.data }], guard := none }) (v := ?_) rfl (by kernel_rfl) (by kernel_rfl) (by kernel_rfl) (fun _ _ _ h => h) (Or.inl ⟨by rfl, ?_⟩) (by assumption) ?_
        rotate_left 1
        · intro w hSw; (obtain ⟨d0, d1, d2, d3, d4, _⟩ := hSw); go_simp; try with_reducible rfl
        try simp only [Act.put, List.setIfInBounds_toArray, List.set_cons_zero, List.set_cons_succ, hfb]
        refine wpAnyH_take (i := 17) (oi := { dst := some 8, op := Go.Op.assign (Go.Operand.tmp 53), type := 4, pos := "law.go:58", after := #[{ on := 16, ground := Go.Ground.data }, { on := 15, ground := Go.Ground.chain }, { on := 0, ground := Go.Ground.phase }, { on := 1, ground := Go.Ground.phase }, { on := 2, ground := Go.Ground.phase }, { on := 3, ground := Go.Ground.phase }, { on := 4, ground := Go.Ground.phase }, { on := 5, ground := Go.Ground.phase }, { on := 6, ground := Go.Ground.phase }, { on := 7, ground := Go.Ground.phase }, { on := 8, ground := Go.Ground.phase }, { on := 9, ground := Go.Ground.phase }, { on := 10, ground := Go.Ground.phase }, { on := 11, ground := Go.Ground.phase }, { on := 12, ground := Go.Ground.phase }, { on := 13, ground := Go.Ground.phase }, { on := 14, ground := Go.Ground.phase }, { on := 15, ground := Go.Ground.phase }, { on := 16, ground := Go.Ground.phase }], guard := none }) (v := ?_) rfl (by kernel_rfl) (by kernel_rfl) (by kernel_rfl) (fun _ _ _ h => h) (Or.inl ⟨by rfl, ?_⟩) (by assumption) ?_
        rotate_left 1
        · intro w hSw; (obtain ⟨d0, d1, d2, d3, d4, _⟩ := hSw); go_simp; try with_reducible rfl
        try simp only [Act.put, List.setIfInBounds_toArray, List.set_cons_zero, List.set_cons_succ, hfb]
        refine wpAnyH_done (by kernel_rfl) ?_ _
        have hbel := hHeld3.boxed.below
        clear hHeld3 hS1
        go_wp2_with fail
        go_ret
        refine ⟨?_, hbel⟩
        unfold alikeB
        rw [HO.out, HO2.out.1, HO2.out.2, HR.out, HR2.out.1, HR2.out.2, if_neg]
        · simp [HF5.out]
        · simp [HSM.out]
end Go.Proofs.Ytffnkbicbfjnpaa
