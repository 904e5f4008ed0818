/- refinerylaw13.RunFuel: the walk. Conditions: the numbers are of their kinds. -/
import Derived.Test.YtffnkbicbfjnpaaRAwake
import Derived.Test.YtffnkbicbfjnpaaRAlike
import Derived.Test.YtffnkbicbfjnpaaRTwo
import Derived.StillTailTactics
import Derived.BigQuiet
import Derived.Deep.QuietTactic
import Derived.Deep.RegionHeld3
namespace Go.Proofs.Ytffnkbicbfjnpaa
open Go.RowKit Go.Proofs.Ytffnkbicbfjnpaa.PRunFuel
open Go.Proofs.YtffnkbicbfjnpaaW.PrintWords (ReadsInt rd Kd)
theorem smallP_runs {s0 : Int} {bare : Bool} {bs : List S138} (h8 : bs.length ≤ 8) (hbs : ∀ b ∈ bs, b.f0.length ≤ 10) : Runs (smallP s0 bare bs) :=
  ⟨by have := smallP_count (s0 := s0) (bare := bare) h8 hbs; omega, fun b hb => (smallP_mem hbs hb).1⟩
/-- The small program's box, the inputs. -/
structure FS (W X : World) (s0 : Int) (bare : Bool) (bs : List S138) (A : Option Addr) (c : Nat) (Ai : Option Addr) (inp : List Int) : Prop where
  box : X.heap[W.heap.size]? = some (.cells #[.int .u8 s0, .bool bare, .slice A bs.length c] 65 (0, 0))
  bs : k138.C X A bs.length bs
  inp : ReadsInt X .i64 Ai inp.length inp
  below : Below W.heap.size W X
theorem FS.later {W X X' : World} {s0 : Int} {bare : Bool} {bs : List S138} {A : Option Addr} {c : Nat} {Ai : Option Addr} {inp : List Int} (h : FS W X s0 bare bs A c Ai inp) (hb : Below X.heap.size X X') : FS W X' s0 bare bs A c Ai inp :=
  ⟨(hb.block _ (lt_blk' h.box)).trans h.box, Kd.C_below h.bs hb, h.inp.below hb, below_two h.below hb⟩
theorem FS.cells {W X : World} {s0 : Int} {bare : Bool} {bs : List S138} {A : Option Addr} {c : Nat} {Ai : Option Addr} {inp : List Int} (h : FS W X s0 bare bs A c Ai inp) :
    X.cell? ⟨W.heap.size, 0, none⟩ = some (.int .u8 s0) ∧ X.cell? ⟨W.heap.size, 1, none⟩ = some (.bool bare) ∧ X.cell? ⟨W.heap.size, 2, none⟩ = some (.slice A bs.length c) :=
  ⟨cell_of_blk _ _ _ _ _ h.box 0, cell_of_blk _ _ _ _ _ h.box 1, cell_of_blk _ _ _ _ _ h.box 2⟩
theorem alike_self (p : List S31) (inp : List Int) (n : Nat) (hn : n ≤ 1023) (hp : Runs p) (hf : (runP p inp n).fin ≠ 2) : alikeB p p inp n = true := by
  have hs := (runP_ext p inp n (by omega)).2.1
  have hc := hp.count
  have hm : ((runP p inp n).steps + 1) * (countP p + 1) ≤ 1024 * 1024 := Nat.mul_le_mul (by omega) (by omega)
  have hk : (runP p inp n).steps < ((runP p inp n).steps + 1) * (countP p + 1) := Nat.lt_of_lt_of_le (Nat.lt_succ_self _) (Nat.le_mul_of_pos_right _ (by omega))
  have e := runP_again p inp n _ (by omega) (by omega) hf hk
  have hsm : sameO (runP p inp n) (runP p inp n) = true := by unfold sameO; simp
  unfold alikeB
  rw [e, hsm, if_neg (by simp)]
  simp
theorem OutS.sl {o : Out} {v : Value} {w : World} (h : OutS o v w) : ∃ A c, v = ov o (.slice A o.trace.length c) := by
  obtain ⟨A, c, h1, _, _⟩ := h.outR
  exact ⟨A, c, h1⟩
theorem set1 {w : World} {g : Nat} {cur : Array Value} {e : TypeId} {fr : Nat × Nat} (h : w.heap[g]? = some (.cells cur e fr)) (o : Nat) (v : Value) : (w.setCell ⟨g, o, none⟩ v).heap[g]? = some (.cells (cur.setIfInBounds o v) e fr) := by
  simp [World.setCell, Array.getElem?_modify, h]
theorem store4 {w : World} {g : Nat} {a0 a1 a2 a3 : Value} {T : TypeId} (b0 b1 b2 b3 : Value) (h : w.heap[g]? = some (.cells #[a0, a1, a2, a3] T (0, 0))) :
    ((((w.setCell ⟨g, 0, none⟩ b0).setCell ⟨g, 1, none⟩ b1).setCell ⟨g, 2, none⟩ b2).setCell ⟨g, 3, none⟩ b3).heap[g]? = some (.cells #[b0, b1, b2, b3] T (0, 0)) ∧ Only (fun k => k = g) w ((((w.setCell ⟨g, 0, none⟩ b0).setCell ⟨g, 1, none⟩ b1).setCell ⟨g, 2, none⟩ b2).setCell ⟨g, 3, none⟩ b3) :=
  ⟨set1 (set1 (set1 (set1 h 0 b0) 1 b1) 2 b2) 3 b3, (((Only.setCell w ⟨g, 0, none⟩ b0).trans (Only.setCell _ ⟨g, 1, none⟩ b1) (fun _ _ h => h)).trans (Only.setCell _ ⟨g, 2, none⟩ b2) (fun _ _ h => h)).trans (Only.setCell _ ⟨g, 3, none⟩ b3) (fun _ _ h => h)⟩
/-- While two outcomes come up: a program's box; nothing older is touched. -/
def TS (Y : World) (q : Nat) (pv : Value) (X : World) : Prop := X.cell? ⟨q, 0, none⟩ = some pv ∧ q < Y.heap.size ∧ Hid (Below Y.heap.size Y X)
theorem TS.later {Y : World} {q : Nat} {pv : Value} {X X' : World} (h : TS Y q pv X) (hb : Below X.heap.size X X') : TS Y q pv X' :=
  ⟨cell_low hb h.1, h.2.1, Lib.hid (below_two h.2.2.out hb)⟩
theorem TS.only {Y : World} {q : Nat} {pv : Value} {X X' : World} {g : Nat} (h : TS Y q pv X) (hg : Y.heap.size ≤ g) (ho : Only (fun k => k = g) X X') : TS Y q pv X' :=
  ⟨by
    have hq := h.2.1
    have hq2 := h.2.2.out.size
    rw [← h.1]
    exact ho.cell (p := ⟨q, 0, none⟩) (by show q < X.heap.size; omega) (by show ¬ q = g; omega), h.2.1, Lib.hid (h.2.2.out.trans (ho.below h.2.2.out.size (fun k hk e => by omega)))⟩
/-- Two outcomes in memory. -/
def AbS (Y : World) (q : Nat) (pv : Value) (o1 o2 : Out) (A1 A2 : Option Addr) (c1 c2 g1 g2 : Nat) (X : World) : Prop :=
  X.cell? ⟨g1, 0, none⟩ = some (.int .u8 o1.fin) ∧ X.cell? ⟨g1, 1, none⟩ = some (.int .i64 o1.val) ∧ X.cell? ⟨g1, 2, none⟩ = some (.slice A1 o1.trace.length c1) ∧ X.cell? ⟨g1, 3, none⟩ = some (.int .i64 o1.steps) ∧
  X.cell? ⟨g2, 0, none⟩ = some (.int .u8 o2.fin) ∧ X.cell? ⟨g2, 1, none⟩ = some (.int .i64 o2.val) ∧ X.cell? ⟨g2, 2, none⟩ = some (.slice A2 o2.trace.length c2) ∧ X.cell? ⟨g2, 3, none⟩ = some (.int .i64 o2.steps) ∧
  X.cell? ⟨q, 0, none⟩ = some pv ∧ Hid (Below Y.heap.size Y X ∧ OutR o1 X (ov o1 (.slice A1 o1.trace.length c1)) ∧ OutR o2 X (ov o2 (.slice A2 o2.trace.length c2)))
section
variable {Y : World} {q : Nat} {pv : Value} {o1 o2 : Out} {A1 A2 : Option Addr} {c1 c2 g1 g2 : Nat} {X X' : World}
theorem AbS.mk' (h : TS Y q pv X) (r1 : OutR o1 X (ov o1 (.slice A1 o1.trace.length c1))) (r2 : OutR o2 X (ov o2 (.slice A2 o2.trace.length c2)))
    (h1 : X.heap[g1]? = some (.cells (ov o1 (.slice A1 o1.trace.length c1)).cells 60 (0, 0))) (h2 : X.heap[g2]? = some (.cells (ov o2 (.slice A2 o2.trace.length c2)).cells 60 (0, 0))) : AbS Y q pv o1 o2 A1 A2 c1 c2 g1 g2 X :=
  ⟨cell_of_blk _ _ _ _ _ h1 0, cell_of_blk _ _ _ _ _ h1 1, cell_of_blk _ _ _ _ _ h1 2, cell_of_blk _ _ _ _ _ h1 3, cell_of_blk _ _ _ _ _ h2 0, cell_of_blk _ _ _ _ _ h2 1, cell_of_blk _ _ _ _ _ h2 2, cell_of_blk _ _ _ _ _ h2 3, h.1, Lib.hid ⟨h.2.2.out, r1, r2⟩⟩
theorem AbS.later (h : AbS Y q pv o1 o2 A1 A2 c1 c2 g1 g2 X) (hb : Below X.heap.size X X') : AbS Y q pv o1 o2 A1 A2 c1 c2 g1 g2 X' := by
  obtain ⟨h0, h1, h2, h3, h4, h5, h6, h7, h8, h9⟩ := h
  exact ⟨cell_low hb h0, cell_low hb h1, cell_low hb h2, cell_low hb h3, cell_low hb h4, cell_low hb h5, cell_low hb h6, cell_low hb h7, cell_low hb h8, Lib.hid ⟨below_two h9.out.1 hb, h9.out.2.1.later hb, h9.out.2.2.later hb⟩⟩
theorem AbS.out (h : AbS Y q pv o1 o2 A1 A2 c1 c2 g1 g2 X) : Below Y.heap.size Y X ∧ OutR o1 X (ov o1 (.slice A1 o1.trace.length c1)) ∧ OutR o2 X (ov o2 (.slice A2 o2.trace.length c2)) := h.2.2.2.2.2.2.2.2.2.out
end
theorem outR_row {o : Out} {X : World} {A : Option Addr} {c : Nat} (h : OutR o X (ov o (.slice A o.trace.length c))) : o.trace.length ≤ c ∧ (Kd.int .i64).C X A o.trace.length o.trace := by
  obtain ⟨A', c', h1, h2, h3⟩ := h
  unfold ov at h1
  injection h1 with h1
  have : (Value.slice A o.trace.length c) = .slice A' o.trace.length c' := by simpa using h1
  injection this with e1 _ e2
  subst e1; subst e2
  exact ⟨h2, h3⟩
theorem C_prefix {X : World} {A : Option Addr} {l l1 : List Int} (h : (Kd.int .i64).C X A l.length l) (hp : l1 <+: l) : (Kd.int .i64).C X A l1.length l1 := by
  have hl := hp.length_le
  obtain ⟨_, h2, h3⟩ := h
  refine ⟨rfl, by omega, fun hn => ?_⟩
  obtain ⟨ad, e, hc⟩ := h3 (by omega)
  refine ⟨ad, e, fun j x hj => hc j x ?_⟩
  obtain ⟨t, rfl⟩ := hp
  rw [List.getElem?_append_left (List.getElem?_eq_some_iff.1 hj).1]
  exact hj
set_option linter.unusedSimpArgs false in
set_option maxRecDepth 100000 in
set_option maxHeartbeats 4000000 in
theorem fuel_calls (s0 : Int) (bare : Bool) (bs : List S138) (A Ai : Option Addr) (c ci : Nat) (inp : List Int) (x y : Int) (W : World) (h0 : 0 ≤ s0) (hA : k138.C W A bs.length bs) (hc : bs.length ≤ c) (hb1 : ∀ b ∈ bs, 0 ≤ b.f1)
    (hin : ReadsInt W .i64 Ai inp.length inp) (hci : inp.length ≤ ci) (hx : 0 ≤ x ∧ x ≤ 65535) (hy : 0 ≤ y ∧ y ≤ 65535) :
    Calls Try.prog 5 #[.agg #[.int .u8 s0, .bool bare, .slice A bs.length c], .slice Ai inp.length ci, .int .u16 x, .int .u16 y] W fun e W' => e = .returned (.bool true) ∧ Below W.heap.size W W' := by
  have HA := Lib.hid (And.intro hA (And.intro hc (And.intro hb1 (And.intro hin (And.intro hci h0)))))
  clear hA hc hb1 hin hci h0
  go_enter Try.func5, Try.ntmps5
  go_wp2_with fail
  generalize hX : World.alloc W _ = X
  have hbX : Below W.heap.size W X := hX ▸ (Below.refl _ _).alloc (Nat.le_refl _) _
  have hS : FS W X s0 bare bs A c Ai inp := ⟨hX ▸ heap_alloc_new W _, Kd.C_below HA.out.1 hbX, HA.out.2.2.2.1.below hbX, hbX⟩
  have HS := Lib.hid hS
  clear hbX hS hX
  refine (awake_calls X).mono ?_
  rintro e W1 ⟨rfl, hb⟩
  have HS1 := Lib.hid (HS.out.later hb)
  clear hb HS
  obtain ⟨x0, x1, x2⟩ := HS1.out.cells
  go_wp2_with fail
  clear x0 x1 x2
  refine (light_calls s0 bare bs A c W1 HS1.out.bs HA.out.2.1).mono ?_
  rintro e W2 ⟨rfl, hb⟩
  have HS2 := Lib.hid (HS1.out.later hb)
  clear hb HS1
  by_cases hl : (∀ b ∈ bs, b.f0.length ≤ 10) ∧ bs.length ≤ 8
  · rw [decide_eq_true hl]
    have HL := Lib.hid hl
    clear hl
    by_cases h30 : inp.length ≤ 30
    · have h30b : decide ((30 : Int) < (inp.length : Int)) = false := decide_eq_false (by omega)
      obtain ⟨x0, x1, x2⟩ := HS2.out.cells
      go_wp2_with fail
      clear x0 x1 x2 h30b
      refine (program_calls s0 HA.out.2.2.2.2.2 bare bs A c W2 HS2.out.bs HA.out.2.1 HL.out.2 (fun b hb => ⟨HA.out.2.2.1 b hb, HL.out.1 b hb⟩)).mono ?_
      rintro e W3 ⟨⟨v, rfl, hv⟩, hb⟩
      obtain ⟨Ap, cp, rfl, hcp, hAp⟩ := hv
      have HS3 := Lib.hid (HS2.out.later hb)
      have HP := Lib.hid (And.intro hAp hcp)
      clear hb HS2 hAp hcp
      obtain ⟨z, hz⟩ : ∃ z : Int, (if y < x then y else x) = z := ⟨_, rfl⟩
      have hz0 : 0 ≤ z ∧ z ≤ 65535 := by split at hz <;> omega
      obtain ⟨n, hn⟩ : ∃ n : Nat, z % 400 = n := ⟨(z % 400).toNat, by omega⟩
      obtain ⟨m, hm⟩ : ∃ m : Nat, (if x % 400 < y % 400 then y % 400 else x % 400) = m := ⟨(if x % 400 < y % 400 then y % 400 else x % 400).toNat, by split <;> omega⟩
      have hnm : n ≤ m := by split at hz <;> split at hm <;> omega
      have hm4 : m < 400 := by split at hm <;> omega
      have hd : decide ((m : Int) < (n : Int)) = false := decide_eq_false (by omega)
      go_wp2_with fail
      clear hn hm hd hx hy hz hz0
      rw [show decide (m < n) = false from decide_eq_false (by omega)]
      refine wp_named fun Y hY => ?_
      have hbY : Below W3.heap.size W3 Y := hY ▸ (Below.refl _ _).alloc (Nat.le_refl _) _
      have hpq : Y.heap[W3.heap.size]? = some (.cells #[.slice Ap (smallP s0 bare bs).length cp] 57 (0, 0)) := hY ▸ heap_alloc_new W3 _
      have hPY : PrgR (smallP s0 bare bs) Y (.agg #[.slice Ap (smallP s0 bare bs).length cp]) := ⟨Ap, cp, rfl, HP.out.2, Kd.C_below HP.out.1 hbY⟩
      have hIY := HS3.out.inp.below hbY
      have hWY := below_two HS3.out.below hbY
      have hR := smallP_runs (s0 := s0) (bare := bare) HL.out.2 HL.out.1
      have hci := HA.out.2.2.2.2.1
      have HH := Lib.hid (And.intro hPY (And.intro hIY (And.intro hWY (And.intro hR hci))))
      have hq1 := cell_of_blk _ _ _ _ _ hpq 0
      have hS1 : TS Y W3.heap.size (.slice Ap (smallP s0 bare bs).length cp) (Y.drewN 1) := ⟨hq1, lt_blk' hpq, Lib.hid (below_drewN Y 1)⟩
      clear hY hbY hpq hPY hIY hWY hR hci HS3 HP HA hq1
      generalize W3.heap.size = q at *
      generalize smallP s0 bare bs = p at *
      obtain ⟨o1, ho1⟩ : ∃ o1, runP p inp n = o1 := ⟨_, rfl⟩
      obtain ⟨o2, ho2⟩ : ∃ o2, runP p inp m = o2 := ⟨_, rfl⟩
      have HO1 := Lib.hid ho1
      have HO2 := Lib.hid ho2
      have hrf := runP_fuel p inp n m hnm (by omega)
      have hex := runP_ext p inp n (by omega)
      have hag := fun k (hk : k ≤ 1048576) (h1 : (runP p inp n).fin ≠ 2) h2 => runP_again p inp n k (by omega) hk h1 h2
      rw [ho1, ho2] at hrf
      rw [ho1] at hex hag
      have hpr : o1.trace <+: o2.trace := by
        rcases hrf with ⟨_, h, _⟩ | ⟨_, _, _, h, _⟩
        · rw [h]; exact List.prefix_refl _
        · exact h
      have hl1 : o1.trace.length ≤ 400 := by omega
      have hl2 := hpr.length_le
      have HPR := Lib.hid hpr
      have HRF := Lib.hid (And.intro hrf hag)
      clear ho1 ho2 hrf hex hag hpr
      have hd : decide (o2.trace.length < o1.trace.length) = false := decide_eq_false (by omega)
      refine wp_region_held_drew (S := (TS Y q (.slice Ap p.length cp))) (by kernel_rfl) (by (first | exact hS1 | (refine TS.later (by assumption) ?_; assumption))) (fun hHeld => ?_)
      refine wpAnyH_take (i := 0) (oi := { dst := some 42, op := Go.Op.load 57 (Go.Operand.tmp 9), type := 57, pos := "law.go:74", after := #[], guard := none }) (v := ?_) rfl (by kernel_rfl) (by kernel_rfl) (by kernel_rfl) (fun _ _ _ h => h) (Or.inl ⟨by rfl, ?_⟩) (by assumption) ?_
      rotate_left 1
      · intro w hSw; (obtain ⟨d0, _, _⟩ := hSw); go_simp; try with_reducible rfl
      try simp only [Act.put, List.setIfInBounds_toArray, List.set_cons_zero, List.set_cons_succ]
      refine wpAnyH_take (i := 1) (oi := { dst := some 43, op := Go.Op.move (Go.Operand.tmp 1), type := 54, pos := "law.go:74", after := #[], guard := none }) (v := ?_) rfl (by kernel_rfl) (by kernel_rfl) (by kernel_rfl) (fun _ _ _ h => h) (Or.inl ⟨by rfl, ?_⟩) (by assumption) ?_
      rotate_left 1
      · intro w hSw; (obtain ⟨d0, _, _⟩ := hSw); go_simp; try with_reducible rfl
      try simp only [Act.put, List.setIfInBounds_toArray, List.set_cons_zero, List.set_cons_succ]
      refine wpAnyH_take (i := 2) (oi := { dst := some 44, op := Go.Op.move (Go.Operand.tmp 10), type := 3, pos := "law.go:74", after := #[], guard := none }) (v := ?_) rfl (by kernel_rfl) (by kernel_rfl) (by kernel_rfl) (fun _ _ _ h => h) (Or.inl ⟨by rfl, ?_⟩) (by assumption) ?_
      rotate_left 1
      · intro w hSw; (obtain ⟨d0, _, _⟩ := hSw); go_simp; try with_reducible rfl
      try simp only [Act.put, List.setIfInBounds_toArray, List.set_cons_zero, List.set_cons_succ]
      refine wpAnyH_take (i := 4) (oi := { dst := some 46, op := Go.Op.load 57 (Go.Operand.tmp 9), type := 57, pos := "law.go:74", after := #[], guard := none }) (v := ?_) rfl (by kernel_rfl) (by kernel_rfl) (by kernel_rfl) (fun _ _ _ h => h) (Or.inl ⟨by rfl, ?_⟩) (by assumption) ?_
      rotate_left 1
      · intro w hSw; (obtain ⟨d0, _, _⟩ := hSw); go_simp; try with_reducible rfl
      try simp only [Act.put, List.setIfInBounds_toArray, List.set_cons_zero, List.set_cons_succ]
      refine wpAnyH_take (i := 5) (oi := { dst := some 47, op := Go.Op.move (Go.Operand.tmp 1), type := 54, pos := "law.go:74", after := #[], guard := none }) (v := ?_) rfl (by kernel_rfl) (by kernel_rfl) (by kernel_rfl) (fun _ _ _ h => h) (Or.inl ⟨by rfl, ?_⟩) (by assumption) ?_
      rotate_left 1
      · intro w hSw; (obtain ⟨d0, _, _⟩ := hSw); go_simp; try with_reducible rfl
      try simp only [Act.put, List.setIfInBounds_toArray, List.set_cons_zero, List.set_cons_succ]
      refine wpAnyH_take (i := 6) (oi := { dst := some 48, op := Go.Op.move (Go.Operand.tmp 11), type := 3, pos := "law.go:74", after := #[], guard := none }) (v := ?_) rfl (by kernel_rfl) (by kernel_rfl) (by kernel_rfl) (fun _ _ _ h => h) (Or.inl ⟨by rfl, ?_⟩) (by assumption) ?_
      rotate_left 1
      · intro w hSw; (obtain ⟨d0, _, _⟩ := hSw); go_simp; try with_reducible rfl
      try simp only [Act.put, List.setIfInBounds_toArray, List.set_cons_zero, List.set_cons_succ]
      refine two_start (x := ⟨3, 7, 8, 9, 10, 11⟩) (B := Y.heap.size) (T := 60) (zero := #[.int .u8 0, .int .i64 0, .slice none 0 0, .int .i64 0]) (cellsOf := Value.cells) (R1 := OutS o1) (R2 := OutS o2) 45 49 12 13 (by kernel_rfl) (by kernel_rfl) (by decide) (by rfl) (by assumption) (fun _ _ h hb => h.later hb) (fun _ _ _ h hg ho => h.only hg ho) (fun _ h => h.2.2.out.size) (fun _ _ _ h hb => h.later hb) (fun _ _ _ _ _ h hg ho => h.only hg ho) (fun _ _ _ h hb => h.later hb) (fun _ _ _ _ _ h hg ho => h.only hg ho) ?_ ?_ ?_ ?_ ?_ ?_ ?_
      · intro v1 v2 p1 p2 w K hSw hK
        refine wpOp_step (o := { dst := some 45, op := Go.Op.call { callee := Go.Callee.value (Go.Operand.func 29), args := #[Go.Operand.tmp 42, Go.Operand.tmp 43, Go.Operand.tmp 44], argTypes := #[57, 54, 3] }, type := 60, pos := "law.go:74", after := #[{ on := 0, ground := Go.Ground.data }, { on := 1, ground := Go.Ground.data }, { on := 2, ground := Go.Ground.data }], guard := none }) rfl (fun K' hK' => ?_)
        have HK := Lib.hid (And.intro hK hK')
        clear hK hK'
        simp only [put4, Act.put, List.setIfInBounds_toArray, List.set_cons_zero, List.set_cons_succ]
        go_simp
        refine (runS_calls p _ Ai ci inp n w (by omega) (HH.out.1.later hSw.2.2.out) (by have := HH.out.2.2.2.1.count; omega) HH.out.2.2.2.1.bare (HH.out.2.1.below hSw.2.2.out) HH.out.2.2.2.2).mono ?_
        rintro e w' ⟨v, rfl, hv, hb⟩
        rw [HO1.out] at hv
        exact HK.out.2 _ _ (HK.out.1 v w' hv hb)
      · intro v1 v2 p1 p2 w K hSw hK
        refine wpOp_step (o := { dst := some 49, op := Go.Op.call { callee := Go.Callee.value (Go.Operand.func 29), args := #[Go.Operand.tmp 46, Go.Operand.tmp 47, Go.Operand.tmp 48], argTypes := #[57, 54, 3] }, type := 60, pos := "law.go:74", after := #[{ on := 4, ground := Go.Ground.data }, { on := 5, ground := Go.Ground.data }, { on := 6, ground := Go.Ground.data }, { on := 3, ground := Go.Ground.chain }], guard := none }) rfl (fun K' hK' => ?_)
        have HK := Lib.hid (And.intro hK hK')
        clear hK hK'
        simp only [put4, Act.put, List.setIfInBounds_toArray, List.set_cons_zero, List.set_cons_succ]
        go_simp
        refine (runS_calls p _ Ai ci inp m w (by omega) (HH.out.1.later hSw.2.2.out) (by have := HH.out.2.2.2.1.count; omega) HH.out.2.2.2.1.bare (HH.out.2.1.below hSw.2.2.out) HH.out.2.2.2.2).mono ?_
        rintro e w' ⟨v, rfl, hv, hb⟩
        rw [HO2.out] at hv
        exact HK.out.2 _ _ (HK.out.1 v w' hv hb)
      · intro v1 v2 p1 p2 w K hSw hK
        refine wpOp_step (o := { dst := some 12, op := Go.Op.alloc 60, type := 0, pos := "law.go:74", after := #[], guard := none }) rfl (fun K' hK' => ?_)
        have HK := Lib.hid (And.intro hK hK')
        clear hK hK'
        simp only [put4, Act.put, List.setIfInBounds_toArray, List.set_cons_zero, List.set_cons_succ]
        go_simp
        exact HK.out.2 _ _ HK.out.1
      · intro v1 v2 p1 p2 w K hSw hK
        refine wpOp_step (o := { dst := some 13, op := Go.Op.alloc 60, type := 0, pos := "law.go:74", after := #[], guard := none }) rfl (fun K' hK' => ?_)
        have HK := Lib.hid (And.intro hK hK')
        clear hK hK'
        simp only [put4, Act.put, List.setIfInBounds_toArray, List.set_cons_zero, List.set_cons_succ]
        go_simp
        exact HK.out.2 _ _ HK.out.1
      · intro v1 v2 g p2 w K hSw hv hg
        refine Exists.elim hv.sl (fun A1 ht => Exists.elim ht (fun c1 hvt => ?_))
        rw [hvt]
        clear hv hvt ht
        intro hK
        refine wpOp_step (o := { dst := none, op := Go.Op.store 60 (Go.Operand.tmp 12) (Go.Operand.tmp 45), type := 0, pos := "law.go:74", after := #[{ on := 8, ground := Go.Ground.data }, { on := 3, ground := Go.Ground.data }, { on := 7, ground := Go.Ground.chain }, { on := 0, ground := Go.Ground.phase }, { on := 1, ground := Go.Ground.phase }, { on := 2, ground := Go.Ground.phase }, { on := 3, ground := Go.Ground.phase }, { on := 4, ground := Go.Ground.textOnly Go.Departure.lateStores }, { on := 5, ground := Go.Ground.textOnly Go.Departure.lateStores }, { on := 6, ground := Go.Ground.textOnly Go.Departure.lateStores }, { on := 7, ground := Go.Ground.textOnly Go.Departure.lateStoresUnsure }, { on := 8, ground := Go.Ground.phase }, { on := 9, ground := Go.Ground.phase }], guard := none }) rfl (fun K' hK' => ?_)
        have HK := Lib.hid (And.intro hK hK')
        have HG := Lib.hid hg
        have y0 := (rblk hg).1
        have y1 := (rblk hg).2.1
        have y2 := (rblk hg).2.2.1
        have y3 := (rblk hg).2.2.2.1
        have f0 := (rblk hg).2.2.2.2.1
        have f1 := (rblk hg).2.2.2.2.2.1
        have f2 := (rblk hg).2.2.2.2.2.2.1
        have f3 := (rblk hg).2.2.2.2.2.2.2
        clear hK hK' hg
        simp only [put4, Act.put, List.setIfInBounds_toArray, List.set_cons_zero, List.set_cons_succ, ov]
        go_simp
        have h4 := store4 (.int .u8 o1.fin) (.int .i64 o1.val) (.slice A1 o1.trace.length c1) (.int .i64 o1.steps) HG.out
        exact HK.out.2 _ _ (HK.out.1 _ h4.1 h4.2)
      · intro v1 v2 p1 g w K hSw hv hg
        refine Exists.elim hv.sl (fun A1 ht => Exists.elim ht (fun c1 hvt => ?_))
        rw [hvt]
        clear hv hvt ht
        intro hK
        refine wpOp_step (o := { dst := none, op := Go.Op.store 60 (Go.Operand.tmp 13) (Go.Operand.tmp 49), type := 0, pos := "law.go:74", after := #[{ on := 9, ground := Go.Ground.data }, { on := 7, ground := Go.Ground.data }, { on := 10, ground := Go.Ground.chain }, { on := 0, ground := Go.Ground.phase }, { on := 1, ground := Go.Ground.phase }, { on := 2, ground := Go.Ground.phase }, { on := 3, ground := Go.Ground.phase }, { on := 4, ground := Go.Ground.phase }, { on := 5, ground := Go.Ground.phase }, { on := 6, ground := Go.Ground.phase }, { on := 7, ground := Go.Ground.phase }, { on := 8, ground := Go.Ground.phase }, { on := 9, ground := Go.Ground.phase }, { on := 10, ground := Go.Ground.phase }], guard := none }) rfl (fun K' hK' => ?_)
        have HK := Lib.hid (And.intro hK hK')
        have HG := Lib.hid hg
        have y0 := (rblk hg).1
        have y1 := (rblk hg).2.1
        have y2 := (rblk hg).2.2.1
        have y3 := (rblk hg).2.2.2.1
        have f0 := (rblk hg).2.2.2.2.1
        have f1 := (rblk hg).2.2.2.2.2.1
        have f2 := (rblk hg).2.2.2.2.2.2.1
        have f3 := (rblk hg).2.2.2.2.2.2.2
        clear hK hK' hg
        simp only [put4, Act.put, List.setIfInBounds_toArray, List.set_cons_zero, List.set_cons_succ, ov]
        go_simp
        have h4 := store4 (.int .u8 o2.fin) (.int .i64 o2.val) (.slice A1 o2.trace.length c1) (.int .i64 o2.steps) HG.out
        exact HK.out.2 _ _ (HK.out.1 _ h4.1 h4.2)
      · intro v1 v2 g1 g2 w hSw hv1 hv2 hg1 hg2 hne hh1 hh2
        refine Exists.elim hv1.outR (fun A1 h => Exists.elim h (fun c1 h1 => ?_))
        refine Exists.elim hv2.outR (fun A2 h => Exists.elim h (fun c2 h2 => ?_))
        have r1 := hv1.outR
        have r2 := hv2.outR
        rw [h1.1] at hh1 r1
        rw [h2.1] at hh2 r2
        rw [h1.1, h2.1]
        have hA := AbS.mk' hSw r1 r2 hh1 hh2
        have HC := Lib.hid (And.intro h1.2.1 (Nat.le_trans HPR.out.length_le h2.2.1))
        have hc2 := HC.out.2
        have hAB := hA.later (below_drewN w 1)
        clear hSw hv1 hv2 hg1 hg2 hne hh1 hh2 h1 h2 r1 r2 hHeld hS1 hA
        simp only [put4, Act.put, List.setIfInBounds_toArray, List.set_cons_zero, List.set_cons_succ, ov]
        go_wp2_with fail
        refine wp_region_held_drew (S := (AbS Y q (.slice Ap p.length cp) o1 o2 A1 A2 c1 c2 g1 g2)) (by kernel_rfl) (by (first | exact hAB | (refine AbS.later (by assumption) ?_; assumption))) (fun hHeld => ?_)
        refine wpAnyH_take (i := 0) (oi := { dst := some 50, op := Go.Op.fieldAddr 60 (Go.Operand.tmp 12) 2, type := 0, pos := "law.go:75", after := #[], guard := none }) (v := ?_) rfl (by kernel_rfl) (by kernel_rfl) (by kernel_rfl) (fun _ _ _ h => h) (Or.inl ⟨by rfl, ?_⟩) (by assumption) ?_
        rotate_left 1
        · intro w hSw; (have d0 := hSw.1; have d2 := hSw.2.2.1; have d6 := hSw.2.2.2.2.2.2.1; clear hSw); go_simp; try with_reducible rfl
        try simp only [Act.put, List.setIfInBounds_toArray, List.set_cons_zero, List.set_cons_succ, hd]
        refine wpAnyH_take (i := 1) (oi := { dst := some 51, op := Go.Op.load 54 (Go.Operand.tmp 50), type := 54, pos := "law.go:75", after := #[{ on := 0, ground := Go.Ground.data }], guard := none }) (v := ?_) rfl (by kernel_rfl) (by kernel_rfl) (by kernel_rfl) (fun _ _ _ h => h) (Or.inl ⟨by rfl, ?_⟩) (by assumption) ?_
        rotate_left 1
        · intro w hSw; (have d0 := hSw.1; have d2 := hSw.2.2.1; have d6 := hSw.2.2.2.2.2.2.1; clear hSw); go_simp; try with_reducible rfl
        try simp only [Act.put, List.setIfInBounds_toArray, List.set_cons_zero, List.set_cons_succ, hd]
        refine wpAnyH_take (i := 2) (oi := { dst := some 52, op := Go.Op.call { callee := Go.Callee.builtin Go.Builtin.len, args := #[Go.Operand.tmp 51], argTypes := #[54] }, type := 3, pos := "law.go:75", after := #[{ on := 1, ground := Go.Ground.data }], guard := none }) (v := ?_) rfl (by kernel_rfl) (by kernel_rfl) (by kernel_rfl) (fun _ _ _ h => h) (Or.inl ⟨by rfl, ?_⟩) (by assumption) ?_
        rotate_left 1
        · intro w hSw; (have d0 := hSw.1; have d2 := hSw.2.2.1; have d6 := hSw.2.2.2.2.2.2.1; clear hSw); go_simp; try with_reducible rfl
        try simp only [Act.put, List.setIfInBounds_toArray, List.set_cons_zero, List.set_cons_succ, hd]
        refine wpAnyH_take (i := 3) (oi := { dst := some 53, op := Go.Op.fieldAddr 60 (Go.Operand.tmp 13) 2, type := 0, pos := "law.go:75", after := #[], guard := none }) (v := ?_) rfl (by kernel_rfl) (by kernel_rfl) (by kernel_rfl) (fun _ _ _ h => h) (Or.inl ⟨by rfl, ?_⟩) (by assumption) ?_
        rotate_left 1
        · intro w hSw; (have d0 := hSw.1; have d2 := hSw.2.2.1; have d6 := hSw.2.2.2.2.2.2.1; clear hSw); go_simp; try with_reducible rfl
        try simp only [Act.put, List.setIfInBounds_toArray, List.set_cons_zero, List.set_cons_succ, hd]
        refine wpAnyH_take (i := 4) (oi := { dst := some 54, op := Go.Op.load 54 (Go.Operand.tmp 53), type := 54, pos := "law.go:75", after := #[{ on := 3, ground := Go.Ground.data }], guard := none }) (v := ?_) rfl (by kernel_rfl) (by kernel_rfl) (by kernel_rfl) (fun _ _ _ h => h) (Or.inl ⟨by rfl, ?_⟩) (by assumption) ?_
        rotate_left 1
        · intro w hSw; (have d0 := hSw.1; have d2 := hSw.2.2.1; have d6 := hSw.2.2.2.2.2.2.1; clear hSw); go_simp; try with_reducible rfl
        try simp only [Act.put, List.setIfInBounds_toArray, List.set_cons_zero, List.set_cons_succ, hd]
        refine wpAnyH_take (i := 5) (oi := { dst := some 55, op := Go.Op.call { callee := Go.Callee.builtin Go.Builtin.len, args := #[Go.Operand.tmp 54], argTypes := #[54] }, type := 3, pos := "law.go:75", after := #[{ on := 4, ground := Go.Ground.data }], guard := none }) (v := ?_) rfl (by kernel_rfl) (by kernel_rfl) (by kernel_rfl) (fun _ _ _ h => h) (Or.inl ⟨by rfl, ?_⟩) (by assumption) ?_
        rotate_left 1
        · intro w hSw; (have d0 := hSw.1; have d2 := hSw.2.2.1; have d6 := hSw.2.2.2.2.2.2.1; clear hSw); go_simp; try with_reducible rfl
        try simp only [Act.put, List.setIfInBounds_toArray, List.set_cons_zero, List.set_cons_succ, hd]
        refine wpAnyH_take (i := 6) (oi := { dst := some 56, op := Go.Op.binOp Go.BinOp.gtr 3 (Go.Operand.tmp 52) (Go.Operand.tmp 55) 3, type := 4, pos := "law.go:75", after := #[{ on := 2, ground := Go.Ground.data }, { on := 5, ground := Go.Ground.data }], guard := none }) (v := ?_) rfl (by kernel_rfl) (by kernel_rfl) (by kernel_rfl) (fun _ _ _ h => h) (Or.inl ⟨by rfl, ?_⟩) (by assumption) ?_
        rotate_left 1
        · intro w hSw; (have d0 := hSw.1; have d2 := hSw.2.2.1; have d6 := hSw.2.2.2.2.2.2.1; clear hSw); go_simp; try with_reducible rfl
        try simp only [Act.put, List.setIfInBounds_toArray, List.set_cons_zero, List.set_cons_succ, hd]
        refine wpAnyH_take (i := 7) (oi := { dst := some 57, op := Go.Op.move (Go.Operand.tmp 56), type := 4, pos := "law.go:75", after := #[{ on := 6, ground := Go.Ground.data }], guard := none }) (v := ?_) rfl (by kernel_rfl) (by kernel_rfl) (by kernel_rfl) (fun _ _ _ h => h) (Or.inl ⟨by rfl, ?_⟩) (by assumption) ?_
        rotate_left 1
        · intro w hSw; (have d0 := hSw.1; have d2 := hSw.2.2.1; have d6 := hSw.2.2.2.2.2.2.1; clear hSw); go_simp; try with_reducible rfl
        try simp only [Act.put, List.setIfInBounds_toArray, List.set_cons_zero, List.set_cons_succ, hd]
        refine wpAnyH_take (i := 8) (oi := { dst := some 58, op := Go.Op.fieldAddr 60 (Go.Operand.tmp 12) 2, type := 0, pos := "law.go:75", after := #[{ on := 7, ground := Go.Ground.guard }], guard := some (7, false) }) (v := ?_) rfl (by kernel_rfl) (by kernel_rfl) (by kernel_rfl) (fun _ _ _ h => h) (Or.inl ⟨by rfl, ?_⟩) (by assumption) ?_
        rotate_left 1
        · intro w hSw; (have d0 := hSw.1; have d2 := hSw.2.2.1; have d6 := hSw.2.2.2.2.2.2.1; clear hSw); go_simp; try with_reducible rfl
        try simp only [Act.put, List.setIfInBounds_toArray, List.set_cons_zero, List.set_cons_succ, hd]
        refine wpAnyH_take (i := 9) (oi := { dst := some 59, op := Go.Op.load 54 (Go.Operand.tmp 58), type := 54, pos := "law.go:75", after := #[{ on := 8, ground := Go.Ground.data }, { on := 7, ground := Go.Ground.guard }], guard := some (7, false) }) (v := ?_) rfl (by kernel_rfl) (by kernel_rfl) (by kernel_rfl) (fun _ _ _ h => h) (Or.inl ⟨by rfl, ?_⟩) (by assumption) ?_
        rotate_left 1
        · intro w hSw; (have d0 := hSw.1; have d2 := hSw.2.2.1; have d6 := hSw.2.2.2.2.2.2.1; clear hSw); go_simp; try with_reducible rfl
        try simp only [Act.put, List.setIfInBounds_toArray, List.set_cons_zero, List.set_cons_succ, hd]
        refine wpAnyH_take (i := 10) (oi := { dst := some 60, op := Go.Op.fieldAddr 60 (Go.Operand.tmp 13) 2, type := 0, pos := "law.go:75", after := #[{ on := 7, ground := Go.Ground.guard }], guard := some (7, false) }) (v := ?_) rfl (by kernel_rfl) (by kernel_rfl) (by kernel_rfl) (fun _ _ _ h => h) (Or.inl ⟨by rfl, ?_⟩) (by assumption) ?_
        rotate_left 1
        · intro w hSw; (have d0 := hSw.1; have d2 := hSw.2.2.1; have d6 := hSw.2.2.2.2.2.2.1; clear hSw); go_simp; try with_reducible rfl
        try simp only [Act.put, List.setIfInBounds_toArray, List.set_cons_zero, List.set_cons_succ, hd]
        refine wpAnyH_take (i := 11) (oi := { dst := some 61, op := Go.Op.load 54 (Go.Operand.tmp 60), type := 54, pos := "law.go:75", after := #[{ on := 10, ground := Go.Ground.data }, { on := 7, ground := Go.Ground.guard }], guard := some (7, false) }) (v := ?_) rfl (by kernel_rfl) (by kernel_rfl) (by kernel_rfl) (fun _ _ _ h => h) (Or.inl ⟨by rfl, ?_⟩) (by assumption) ?_
        rotate_left 1
        · intro w hSw; (have d0 := hSw.1; have d2 := hSw.2.2.1; have d6 := hSw.2.2.2.2.2.2.1; clear hSw); go_simp; try with_reducible rfl
        try simp only [Act.put, List.setIfInBounds_toArray, List.set_cons_zero, List.set_cons_succ, hd]
        refine wpAnyH_take (i := 12) (oi := { dst := some 62, op := Go.Op.fieldAddr 60 (Go.Operand.tmp 12) 2, type := 0, pos := "law.go:75", after := #[{ on := 7, ground := Go.Ground.guard }], guard := some (7, false) }) (v := ?_) rfl (by kernel_rfl) (by kernel_rfl) (by kernel_rfl) (fun _ _ _ h => h) (Or.inl ⟨by rfl, ?_⟩) (by assumption) ?_
        rotate_left 1
        · intro w hSw; (have d0 := hSw.1; have d2 := hSw.2.2.1; have d6 := hSw.2.2.2.2.2.2.1; clear hSw); go_simp; try with_reducible rfl
        try simp only [Act.put, List.setIfInBounds_toArray, List.set_cons_zero, List.set_cons_succ, hd]
        refine wpAnyH_take (i := 13) (oi := { dst := some 63, op := Go.Op.load 54 (Go.Operand.tmp 62), type := 54, pos := "law.go:75", after := #[{ on := 12, ground := Go.Ground.data }, { on := 7, ground := Go.Ground.guard }], guard := some (7, false) }) (v := ?_) rfl (by kernel_rfl) (by kernel_rfl) (by kernel_rfl) (fun _ _ _ h => h) (Or.inl ⟨by rfl, ?_⟩) (by assumption) ?_
        rotate_left 1
        · intro w hSw; (have d0 := hSw.1; have d2 := hSw.2.2.1; have d6 := hSw.2.2.2.2.2.2.1; clear hSw); go_simp; try with_reducible rfl
        try simp only [Act.put, List.setIfInBounds_toArray, List.set_cons_zero, List.set_cons_succ, hd]
        refine wpAnyH_take (i := 14) (oi := { dst := some 64, op := Go.Op.call { callee := Go.Callee.builtin Go.Builtin.len, args := #[Go.Operand.tmp 63], argTypes := #[54] }, type := 3, pos := "law.go:75", after := #[{ on := 13, ground := Go.Ground.data }, { on := 7, ground := Go.Ground.guard }], guard := some (7, false) }) (v := ?_) rfl (by kernel_rfl) (by kernel_rfl) (by kernel_rfl) (fun _ _ _ h => h) (Or.inl ⟨by rfl, ?_⟩) (by assumption) ?_
        rotate_left 1
        · intro w hSw; (have d0 := hSw.1; have d2 := hSw.2.2.1; have d6 := hSw.2.2.2.2.2.2.1; clear hSw); go_simp; try with_reducible rfl
        try simp only [Act.put, List.setIfInBounds_toArray, List.set_cons_zero, List.set_cons_succ, hd]
        refine wpAnyH_take (i := 15) (oi := { dst := some 65, op := Go.Op.slice 54 (Go.Operand.tmp 61) none (some (Go.Operand.tmp 64)) none, type := 54, pos := "law.go:75", after := #[{ on := 11, ground := Go.Ground.data }, { on := 14, ground := Go.Ground.data }, { on := 7, ground := Go.Ground.guard }], guard := some (7, false) }) (v := ?_) rfl (by kernel_rfl) (by kernel_rfl) (by kernel_rfl) (fun _ _ _ h => h) (Or.inl ⟨by rfl, ?_⟩) (by assumption) ?_
        rotate_left 1
        · intro w hSw; (have d0 := hSw.1; have d2 := hSw.2.2.1; have d6 := hSw.2.2.2.2.2.2.1; clear hSw); go_simp; try with_reducible rfl
        try simp only [Act.put, List.setIfInBounds_toArray, List.set_cons_zero, List.set_cons_succ, hd]
        refine wpAnyH_ready (rs := [16]) (by kernel_rfl) (by simp) ?_
        refine AllReadyH.cons (o := { dst := some 66, op := Go.Op.call { callee := Go.Callee.value (Go.Operand.func 32), args := #[Go.Operand.tmp 59, Go.Operand.tmp 65], argTypes := #[54, 54] }, type := 4, pos := "law.go:75", after := #[{ on := 9, ground := Go.Ground.data }, { on := 15, ground := Go.Ground.data }, { on := 7, ground := Go.Ground.chain }, { on := 7, ground := Go.Ground.guard }], guard := some (7, false) }) rfl (fun K hK => ?_) AllReadyH.nil
        go_simp
        refine (equal_calls o1.trace o1.trace A1 A2 c1 c2 _ (outR_row (AbS.out (by assumption)).2.1).2 HC.out.1 (C_prefix (outR_row (AbS.out (by assumption)).2.2).2 HPR.out) HC.out.2 (by omega)).mono ?_
        rintro e w1 ⟨rfl, hb1⟩
        go_wp2_with fail
        refine hK.out _ _ ?_ (fun hHeld1 => ?_)
        · (try dsimp only); (first | exact hAB | (refine AbS.later (by assumption) ?_; assumption))
        clear hK K hHeld
        try simp only [Act.put, List.setIfInBounds_toArray, List.set_cons_zero, List.set_cons_succ, hd]
        refine wpAnyH_take (i := 17) (oi := { dst := some 67, op := Go.Op.unOp Go.UnOp.not 4 (Go.Operand.tmp 66), type := 4, pos := "law.go:75", after := #[{ on := 16, ground := Go.Ground.data }, { on := 7, ground := Go.Ground.guard }], guard := some (7, false) }) (v := ?_) rfl (by kernel_rfl) (by kernel_rfl) (by kernel_rfl) (fun _ _ _ h => h) (Or.inl ⟨by rfl, ?_⟩) (by assumption) ?_
        rotate_left 1
        · intro w hSw; (have d0 := hSw.1; have d2 := hSw.2.2.1; have d6 := hSw.2.2.2.2.2.2.1; clear hSw); go_simp; try with_reducible rfl
        try simp only [Act.put, List.setIfInBounds_toArray, List.set_cons_zero, List.set_cons_succ, hd]
        refine wpAnyH_take (i := 18) (oi := { dst := some 68, op := Go.Op.pick (Go.Operand.tmp 57) (Go.Operand.const (Go.Value.bool true)) (Go.Operand.tmp 67), type := 4, pos := "law.go:75", after := #[{ on := 7, ground := Go.Ground.data }, { on := 17, ground := Go.Ground.data }], guard := none }) (v := ?_) rfl (by kernel_rfl) (by kernel_rfl) (by kernel_rfl) (fun _ _ _ h => h) (Or.inl ⟨by rfl, ?_⟩) (by assumption) ?_
        rotate_left 1
        · intro w hSw; (have d0 := hSw.1; have d2 := hSw.2.2.1; have d6 := hSw.2.2.2.2.2.2.1; clear hSw); go_simp; try with_reducible rfl
        try simp only [Act.put, List.setIfInBounds_toArray, List.set_cons_zero, List.set_cons_succ, hd]
        refine wpAnyH_done (by kernel_rfl) ?_ _
        have HAB := Lib.hid hHeld1
        have e0 := HAB.out.1
        have e1 := HAB.out.2.1
        have e3 := HAB.out.2.2.2.1
        have e7 := HAB.out.2.2.2.2.2.2.2.1
        clear hHeld1 hAB hb1 hd hc2
        by_cases hf : o1.fin = 2
        · have hfb : (o1.fin == 2) = true := beq_iff_eq.mpr hf
          have hr : o1.val = 0 ∧ o1.steps = n ∧ n ≤ o2.steps := by
            rcases HRF.out.1 with ⟨h, _⟩ | ⟨_, h1, h2, _, h3⟩
            · exact absurd hf h
            · exact ⟨h1, h2, h3⟩
          have b1 : (o1.steps == n) = true := beq_iff_eq.mpr hr.2.1
          have b1' : ((o1.steps : Int) == (n : Int)) = true := beq_iff_eq.mpr (by omega)
          have b2 : (o1.val == 0) = true := beq_iff_eq.mpr hr.1
          have b3 : decide (n ≤ o2.steps) = true := decide_eq_true hr.2.2
          have hbel := below_two HH.out.2.2.1 HAB.out.out.1
          clear hf hr
          go_wp2_with fail
          go_ret
          exact ⟨rfl, hbel⟩
        · have hfb : (o1.fin == 2) = false := beq_eq_false_iff_ne.mpr hf
          have hr : o2 = o1 ∧ o1.steps ≤ n := by
            rcases HRF.out.1 with ⟨_, h1, h2⟩ | ⟨h, _⟩
            · exact ⟨h1, h2⟩
            · exact absurd h hf
          have HF := Lib.hid hf
          have HR := Lib.hid hr
          clear hf hr
          have e2 := HAB.out.2.2.1
          have e4 := HAB.out.2.2.2.2.1
          have e5 := HAB.out.2.2.2.2.2.1
          have e6 := HAB.out.2.2.2.2.2.2.1
          go_wp2_with fail
          refine (sameO_calls o1 o2 _ _ _ HAB.out.out.2.1 HAB.out.out.2.2 (by omega)).mono ?_
          rintro e w2 ⟨rfl, hb2⟩
          have hsm : sameO o1 o2 = true := by rw [HR.out.1]; unfold sameO; simp
          rw [hsm]
          have HAB2 := Lib.hid (HAB.out.later hb2)
          clear e0 e1 e2 e3 e4 e5 e6 e7 HAB hb2 hsm
          have e3 := HAB2.out.2.2.2.1
          have e7 := HAB2.out.2.2.2.2.2.2.2.1
          have e8 := HAB2.out.2.2.2.2.2.2.2.2.1
          rw [HR.out.1] at e7
          have b2 : decide (o1.steps ≤ n) = true := decide_eq_true HR.out.2
          go_wp2_with fail
          refine (alike_calls p p _ _ Ai ci inp n w2 (by omega) (HH.out.1.later HAB2.out.out.1) (HH.out.1.later HAB2.out.out.1) HH.out.2.2.2.1 HH.out.2.2.2.1 (HH.out.2.1.below HAB2.out.out.1) HH.out.2.2.2.2).mono ?_
          rintro e w3 ⟨rfl, hb3⟩
          have hal := alike_self p inp n (by omega) HH.out.2.2.2.1 (by rw [HO1.out]; exact HF.out)
          rw [hal]
          have hbel := below_two HH.out.2.2.1 (below_two HAB2.out.out.1 hb3)
          clear e3 e7 e8 hb3
          go_wp2_with fail
          go_ret
          exact ⟨rfl, hbel⟩
    · have h30b : decide ((30 : Int) < (inp.length : Int)) = true := decide_eq_true (by omega)
      have hbel := HS2.out.below
      go_wp2_with fail
      go_ret
      exact ⟨rfl, hbel⟩
  · rw [decide_eq_false hl]
    have hbel := HS2.out.below
    go_wp2_with fail
    go_ret
    exact ⟨rfl, hbel⟩
end Go.Proofs.Ytffnkbicbfjnpaa
