/- What a machine's step comes to. Conditions: the machine's form; the instruction may be one. -/
import Derived.Test.YtffnkbicbfjnpaaRSpend
import Derived.RegionTactic
import Derived.Test.YtffnkbicbfjnpaaRegZ
import Derived.Maps.AppendAt
import Derived.BigRegion
import Derived.Deep.RegionHeld3
import Derived.StillTailTactics
namespace Go.Proofs.Ytffnkbicbfjnpaa
open Go.RowKit Go.Proofs.Ytffnkbicbfjnpaa.PRunFuel
open Go.Proofs.YtffnkbicbfjnpaaW.PrintWords (ReadsInt rd)
section
variable {B : Nat} {S : Nat → Prop} {w0 W : World} {p mp : Nat} {m : Mc} {e v : Int} {al : List (Int × Value)} {A : Option Addr} {c : Nat} {tv : Value}
theorem info64 : (Try.prog.info? 2).map (fun i => (i.zero, i.size, i.bytes)) = some (some (.int .i64 0), 1, 8) := by kernel_rfl
def iv (x : S38) : Value := .agg #[.int .u8 x.f0, .int .u8 x.f1, .int .i64 x.f2, .int .i64 x.f3, .int .i64 x.f4, .int .i64 x.f5, .int .i64 x.f6]
/-- What a step leaves: it went, or it trapped. -/
def StepPost (B : Nat) (S : Nat → Prop) (w0 : World) (p mp : Nat) (m : Mc) (e v : Int) (x : S38) (ε : Ending) (W' : World) : Prop :=
  ∃ al A c tv, match stepM x m with
  | some m' => ε = .returned (.bool true) ∧ Mach B S w0 W' p mp m' e v al A c tv
  | none => ε = .returned (.bool false) ∧ Mach B S w0 W' p mp m e v al A c tv
theorem StepPost.yes {x : S38} {m' : Mc} (hs : stepM x m = some m') (h : Mach B S w0 W p mp m' e v al A c tv) : StepPost B S w0 p mp m e v x (.returned (.bool true)) W :=
  ⟨al, A, c, tv, by rw [hs]; exact ⟨rfl, h⟩⟩
theorem StepPost.no {x : S38} (hs : stepM x m = none) (h : Mach B S w0 W p mp m e v al A c tv) : StepPost B S w0 p mp m e v x (.returned (.bool false)) W :=
  ⟨al, A, c, tv, by rw [hs]; exact ⟨rfl, h⟩⟩
theorem Mach.look (h : Mach B S w0 W p mp m e v al A c tv) (x : Int) : (Instr.lookup 128 (.map (some mp)) (.int .i64 x) false).run Try.prog W = .ok (.int .i64 (m.r x)) W := by
  have := run_lookupK (P := Try.prog) Try.underlying128 Try.underlying3 (z := .int .i64 0) (fun w => by kernel_rfl) h.map x
  rwa [h.vals] at this
theorem do_calls (o a b : Int) (W : World) : Calls Try.prog 109 #[.int .u8 o, .int .i64 a, .int .i64 b] W fun e w' => e = .returned (.tuple #[.int .i64 (doF o a b).1, .bool (doF o a b).2]) ∧ ∃ n, w' = W.drewN n := by
  have h := do_some o a b
  generalize doF o a b = r at *
  obtain ⟨q, ok⟩ := r
  exact (word_Op_Do.calls 1 o a b q ok W h).mono fun e w' ⟨he, hd⟩ => ⟨he, hd.out⟩
theorem cell_none {w : World} {a : Addr} {u : Value} (h : w.cell? a = some u) : a.spot = none := by
  unfold World.cell? at h
  split at h
  · split at h
    · cases h
    · rename_i hs
      cases hh : a.spot with
      | none => rfl
      | some x => rw [hh] at hs; simp at hs
  · cases h
/-- The first input: where it is, and the row behind it. -/
theorem Mach.in_cell (h : Mach B S w0 W p mp m e v al A c tv) {x : Int} {t : List Int} (hi : m.inp = x :: t) :
    ∃ g o, A = some ⟨g, o, none⟩ ∧ g < B ∧ W.cell? ⟨g, o, none⟩ = some (.int .i64 x) ∧ W.cell? ⟨p, 81, none⟩ = some (.slice (some ⟨g, o, none⟩) (t.length + 1) c) ∧ t.length + 1 ≤ c ∧ t.length + 1 ≤ 9223372036854775807 ∧
      ReadsInt w0 .i64 (some ⟨g, o + 1, none⟩) t.length t := by
  have h1 := h.inp
  have h2 := h.cap
  have h3 := h.c_in
  rw [hi] at h1 h2 h3
  obtain ⟨_, hm, hc⟩ := h1
  obtain ⟨ad, hA, hc'⟩ := hc (by simp)
  subst hA
  have c0 := hc' 0 (by simp)
  have hs := cell_none c0
  obtain ⟨g, o, s⟩ := ad
  have hs' : s = none := by simpa [Addr.add] using hs
  subst hs'
  have hadd : ∀ i, (⟨g, o, none⟩ : Addr).add i = ⟨g, o + i, none⟩ := fun i => by simp [Addr.add]
  have hadd1 : ∀ i, (⟨g, o + 1, none⟩ : Addr).add i = ⟨g, o + 1 + i, none⟩ := fun i => by simp [Addr.add]
  rw [hadd] at c0
  simp only [Nat.add_zero, List.getD_cons_zero] at c0
  have hg : g < B := h.inB g o none rfl (by rw [hi]; simp)
  refine ⟨g, o, rfl, hg, ?_, by simpa using h3, by simpa using h2, by simpa using hm, rfl, by simp at hm; omega, fun hn => ⟨_, rfl, fun j hj => ?_⟩⟩
  · rw [← c0]; exact h.only.cell (p := ⟨g, o, none⟩) (World.block_lt_of_cell? w0 _ c0) (fun e => by have := h.sB _ e; simp only at this; omega)
  · have := hc' (j + 1) (by simp; omega)
    rw [hadd] at this
    rw [hadd1, show o + 1 + j = o + (j + 1) by omega, this]
    simp
theorem own_some {w : World} {base n : Nat} {ty : TypeId} {u : Value} {xs : List Value} (h : w.ownsRow base ty 1 u (n + 1) xs) : ∃ g cap, u = .slice (some ⟨g, 0, none⟩) (n + 1) cap := by
  rcases own_forms h with ⟨_, h0, _⟩ | ⟨g, cap, _, h1, _⟩
  · omega
  · exact ⟨g, cap, h1⟩
theorem out_after (h : Mach B S w0 W p mp m e v al A c tv) {x : Int} (v' : Value) (w1 : World) (k1 : w1.ownsRow B 2 1 v' (m.trace.length + 1) (m.trace.map (Value.int .i64) ++ [.int .i64 x])) (k2 : (W.alloc (.cells #[.int .i64 x] 2)).grownBy w1 tv.ownBlock) (k4 : v'.ownBlock = tv.ownBlock ∨ v'.ownBlock = some (W.heap.size + 1)) :
    w1.cell? ⟨p, 84, none⟩ = some tv ∧ w1.frozen? ⟨p, 84, none⟩ = false ∧ Mach B S w0 (w1.setCell ⟨p, 84, none⟩ v') p mp { m with trace := m.trace ++ [x] } e v al A c v' := by
  have ho : Only (fun k => tv.ownBlock = some k) W w1 := (Only.alloc (fun k => tv.ownBlock = some k) W _).trans (Only.grown k2) (fun _ _ h => h)
  have hb : Only S w0 w1 := h.only.trans ho (fun k hk e => (h.st k e).elim id (fun h => by omega))
  have hst : ∀ g, v'.ownBlock = some g → S g ∨ w0.heap.size ≤ g := fun g hg => by
    rcases k4 with k4 | k4
    · exact h.st g (by rw [← k4]; exact hg)
    · right; rw [k4] at hg; injection hg with hg; have := h.only.size; omega
  exact ⟨(ho.cell (p := ⟨p, 84, none⟩) h.lt.1 h.tne).trans h.c_t, (ho.frozen (p := ⟨p, 84, none⟩) h.lt.1 h.tne).trans (h.frozen 84), h.out hb hst ho k1⟩
/-- The instruction's box. -/
structure BoxI (W : World) (q : Nat) (x : S38) : Prop where
  c0 : W.cell? ⟨q, 0, none⟩ = some (.int .u8 x.f0)
  c1 : W.cell? ⟨q, 1, none⟩ = some (.int .u8 x.f1)
  c2 : W.cell? ⟨q, 2, none⟩ = some (.int .i64 x.f2)
  c3 : W.cell? ⟨q, 3, none⟩ = some (.int .i64 x.f3)
  c4 : W.cell? ⟨q, 4, none⟩ = some (.int .i64 x.f4)
  c5 : W.cell? ⟨q, 5, none⟩ = some (.int .i64 x.f5)
  c6 : W.cell? ⟨q, 6, none⟩ = some (.int .i64 x.f6)
theorem BoxI.new (W : World) (x : S38) (t : TypeId) : BoxI (W.alloc (.cells #[.int .u8 x.f0, .int .u8 x.f1, .int .i64 x.f2, .int .i64 x.f3, .int .i64 x.f4, .int .i64 x.f5, .int .i64 x.f6] t)) W.heap.size x := by
  constructor <;> (rw [cell_of_blk _ _ _ _ _ (heap_alloc_new W _)]; rfl)
theorem Mach.new (h : Mach B S w0 W p mp m e v al A c tv) (o : Obj) : Mach B S w0 (W.alloc o) p mp m e v al A c tv := h.later ((Below.refl _ _).alloc (Nat.le_refl _) _)
set_option maxRecDepth 100000 in
theorem step_0 (h : Mach B S w0 W p mp m e v al A c tv) (f1 f2 f3 f4 f5 f6 : Int) :
    Calls Try.prog 75 #[.pointer (some ⟨p, 0, none⟩), iv ⟨0, f1, f2, f3, f4, f5, f6⟩] W fun ε W' => StepPost B S w0 p mp m e v ⟨0, f1, f2, f3, f4, f5, f6⟩ ε W' := by
  unfold iv
  have h1 := h.new (.cells #[.int .u8 0, .int .u8 f1, .int .i64 f2, .int .i64 f3, .int .i64 f4, .int .i64 f5, .int .i64 f6] 38)
  have hb := BoxI.new W ⟨0, f1, f2, f3, f4, f5, f6⟩ 38
  obtain ⟨W1, hW1⟩ : ∃ W1, W.alloc (.cells #[.int .u8 0, .int .u8 f1, .int .i64 f2, .int .i64 f3, .int .i64 f4, .int .i64 f5, .int .i64 f6] 38) = W1 := ⟨_, rfl⟩
  simp only [hW1] at h1 hb
  obtain ⟨c0, c1, c2, c3, c4, c5, c6⟩ := hb
  have g0 := h1.c_r
  have l1 : ∀ n, (Instr.lookup 128 (.map (some mp)) (.int .i64 f3) false).run Try.prog (W1.drewN n) = .ok (.int .i64 (m.r f3)) (W1.drewN n) := fun n => (h1.drew n).look f3
  have l2 : ∀ n, (Instr.lookup 128 (.map (some mp)) (.int .i64 f4) false).run Try.prog (W1.drewN n) = .ok (.int .i64 (m.r f4)) (W1.drewN n) := fun n => (h1.drew n).look f4
  have HW := Lib.hid hW1
  have HH := Lib.hid h1
  clear hW1 h1
  have h0 := h
  clear h
  clear h0
  go_enter Try.func75, Try.ntmps75
  go_wp2
  rw [HW.out]
  go_quiet (fail)
  obtain ⟨W2, hW2⟩ : ∃ W2, W1.drewN nq = W2 := ⟨_, rfl⟩
  have hM2 : Mach B S w0 W2 p mp m e v al A c tv := hW2 ▸ HH.out.drew nq
  have d0 : ∀ a, W2.cell? a = W1.cell? a := fun a => by rw [← hW2]; rfl
  rw [hW2]
  have e0 := (d0 _).trans c0
  have e1 := (d0 _).trans c1
  have e2 := (d0 _).trans c2
  have e3 := (d0 _).trans c3
  have e4 := (d0 _).trans c4
  have e5 := (d0 _).trans c5
  have e6 := (d0 _).trans c6
  have g2 := hM2.c_r
  have HM := Lib.hid hM2
  clear hM2 d0 hW2 c0 c1 c2 c3 c4 c5 c6 g0 l1 l2
  obtain ⟨W3, hrun, hm3, ho3⟩ := run_updK (P := Try.prog) Try.underlying128 Try.underlying3 (HM.out.drew 1).map f2 (.int .i64 f5)
  have HF := Lib.hid ((HM.out.drew 1).upd ho3 hm3)
  have HR := Lib.hid hrun
  clear hrun hm3 ho3
  go_wp2_with fail
  go_still_tail 8, (by kernel_rfl)
  change wpList _ _ _ _ _ (W2.drewN 1)
  have hrun := HR.out
  generalize W2.drewN 1 = W4 at *
  go_wp2
  go_ret
  exact StepPost.yes (by simp [stepM]) HF.out
set_option maxRecDepth 100000 in
theorem step_1 (h : Mach B S w0 W p mp m e v al A c tv) (f1 f2 f3 f4 f5 f6 : Int) :
    Calls Try.prog 75 #[.pointer (some ⟨p, 0, none⟩), iv ⟨1, f1, f2, f3, f4, f5, f6⟩] W fun ε W' => StepPost B S w0 p mp m e v ⟨1, f1, f2, f3, f4, f5, f6⟩ ε W' := by
  unfold iv
  have h1 := h.new (.cells #[.int .u8 1, .int .u8 f1, .int .i64 f2, .int .i64 f3, .int .i64 f4, .int .i64 f5, .int .i64 f6] 38)
  have hb := BoxI.new W ⟨1, f1, f2, f3, f4, f5, f6⟩ 38
  obtain ⟨W1, hW1⟩ : ∃ W1, W.alloc (.cells #[.int .u8 1, .int .u8 f1, .int .i64 f2, .int .i64 f3, .int .i64 f4, .int .i64 f5, .int .i64 f6] 38) = W1 := ⟨_, rfl⟩
  simp only [hW1] at h1 hb
  obtain ⟨c0, c1, c2, c3, c4, c5, c6⟩ := hb
  have g0 := h1.c_r
  have l1 : ∀ n, (Instr.lookup 128 (.map (some mp)) (.int .i64 f3) false).run Try.prog (W1.drewN n) = .ok (.int .i64 (m.r f3)) (W1.drewN n) := fun n => (h1.drew n).look f3
  have l2 : ∀ n, (Instr.lookup 128 (.map (some mp)) (.int .i64 f4) false).run Try.prog (W1.drewN n) = .ok (.int .i64 (m.r f4)) (W1.drewN n) := fun n => (h1.drew n).look f4
  have HW := Lib.hid hW1
  have HH := Lib.hid h1
  clear hW1 h1
  have h0 := h
  clear h
  clear h0
  go_enter Try.func75, Try.ntmps75
  go_wp2
  rw [HW.out]
  go_quiet (fail)
  obtain ⟨W2, hW2⟩ : ∃ W2, W1.drewN nq = W2 := ⟨_, rfl⟩
  have hM2 : Mach B S w0 W2 p mp m e v al A c tv := hW2 ▸ HH.out.drew nq
  have d0 : ∀ a, W2.cell? a = W1.cell? a := fun a => by rw [← hW2]; rfl
  rw [hW2]
  have e0 := (d0 _).trans c0
  have e1 := (d0 _).trans c1
  have e2 := (d0 _).trans c2
  have e3 := (d0 _).trans c3
  have e4 := (d0 _).trans c4
  have e5 := (d0 _).trans c5
  have e6 := (d0 _).trans c6
  have g2 := hM2.c_r
  have HM := Lib.hid hM2
  clear hM2 d0 hW2 c0 c1 c2 c3 c4 c5 c6 g0 l1 l2
  obtain ⟨W3, hrun, hm3, ho3⟩ := run_updK (P := Try.prog) Try.underlying128 Try.underlying3 (HM.out.drew 1).map f2 (.int .i64 (m.r f3))
  have HF := Lib.hid ((HM.out.drew 1).upd ho3 hm3)
  have HR := Lib.hid hrun
  clear hrun hm3 ho3
  go_wp2_with fail
  go_still_tail 7, (by kernel_rfl)
  change wpList _ _ _ _ _ (W2.drewN 1)
  have hrun := HR.out
  generalize W2.drewN 1 = W4 at *
  go_wp2
  go_ret
  exact StepPost.yes (by simp [stepM]) HF.out
set_option maxRecDepth 100000 in
theorem step_5 (h : Mach B S w0 W p mp m e v al A c tv) (f1 f2 f3 f4 f5 f6 : Int) (h6 : 0 ≤ f6 ∧ f6 < 16) :
    Calls Try.prog 75 #[.pointer (some ⟨p, 0, none⟩), iv ⟨5, f1, f2, f3, f4, f5, f6⟩] W fun ε W' => StepPost B S w0 p mp m e v ⟨5, f1, f2, f3, f4, f5, f6⟩ ε W' := by
  unfold iv
  have h1 := h.new (.cells #[.int .u8 5, .int .u8 f1, .int .i64 f2, .int .i64 f3, .int .i64 f4, .int .i64 f5, .int .i64 f6] 38)
  have hb := BoxI.new W ⟨5, f1, f2, f3, f4, f5, f6⟩ 38
  obtain ⟨W1, hW1⟩ : ∃ W1, W.alloc (.cells #[.int .u8 5, .int .u8 f1, .int .i64 f2, .int .i64 f3, .int .i64 f4, .int .i64 f5, .int .i64 f6] 38) = W1 := ⟨_, rfl⟩
  simp only [hW1] at h1 hb
  obtain ⟨c0, c1, c2, c3, c4, c5, c6⟩ := hb
  have g0 := h1.c_r
  have l1 : ∀ n, (Instr.lookup 128 (.map (some mp)) (.int .i64 f3) false).run Try.prog (W1.drewN n) = .ok (.int .i64 (m.r f3)) (W1.drewN n) := fun n => (h1.drew n).look f3
  have l2 : ∀ n, (Instr.lookup 128 (.map (some mp)) (.int .i64 f4) false).run Try.prog (W1.drewN n) = .ok (.int .i64 (m.r f4)) (W1.drewN n) := fun n => (h1.drew n).look f4
  have HW := Lib.hid hW1
  have HH := Lib.hid h1
  clear hW1 h1
  have h0 := h
  clear h
  clear h0
  go_enter Try.func75, Try.ntmps75
  go_wp2
  rw [HW.out]
  go_quiet (fail)
  obtain ⟨W2, hW2⟩ : ∃ W2, W1.drewN nq = W2 := ⟨_, rfl⟩
  have hM2 : Mach B S w0 W2 p mp m e v al A c tv := hW2 ▸ HH.out.drew nq
  have d0 : ∀ a, W2.cell? a = W1.cell? a := fun a => by rw [← hW2]; rfl
  rw [hW2]
  have e0 := (d0 _).trans c0
  have e1 := (d0 _).trans c1
  have e2 := (d0 _).trans c2
  have e3 := (d0 _).trans c3
  have e4 := (d0 _).trans c4
  have e5 := (d0 _).trans c5
  have e6 := (d0 _).trans c6
  have g2 := hM2.c_r
  have HM := Lib.hid hM2
  clear hM2 d0 hW2 c0 c1 c2 c3 c4 c5 c6 g0 l1 l2
  obtain ⟨k, rfl⟩ : ∃ k : Nat, f6 = (k : Int) := ⟨f6.toNat, by omega⟩
  have gs := HM.out.c_slot k (by omega)
  obtain ⟨sv, hsv⟩ : ∃ sv, m.slots.getD k 0 = sv := ⟨_, rfl⟩
  rw [hsv] at gs
  have hsv2 : m.slots[k]?.getD 0 = sv := by rw [← hsv, List.getD_eq_getElem?_getD]
  have HSV := Lib.hid hsv2
  clear hsv hsv2
  have b0 : (0 : Int) ≤ (k : Int) := by omega
  have b1 : (k : Int) < 16 := by omega
  obtain ⟨W3, hrun, hm3, ho3⟩ := run_updK (P := Try.prog) Try.underlying128 Try.underlying3 (HM.out.drew 1).map f2 (.int .i64 sv)
  have HF := Lib.hid ((HM.out.drew 1).upd ho3 hm3)
  have HR := Lib.hid hrun
  clear hrun hm3 ho3
  go_wp2_with fail
  go_still_tail 13, (by kernel_rfl)
  change wpList _ _ _ _ _ (W2.drewN 1)
  have hrun := HR.out
  generalize W2.drewN 1 = W4 at *
  go_wp2
  go_ret
  exact StepPost.yes (by simp [stepM, HSV.out]) HF.out
set_option maxRecDepth 100000 in
theorem step_6 (h : Mach B S w0 W p mp m e v al A c tv) (f1 f2 f3 f4 f5 f6 : Int) (h6 : 0 ≤ f6 ∧ f6 < 16) :
    Calls Try.prog 75 #[.pointer (some ⟨p, 0, none⟩), iv ⟨6, f1, f2, f3, f4, f5, f6⟩] W fun ε W' => StepPost B S w0 p mp m e v ⟨6, f1, f2, f3, f4, f5, f6⟩ ε W' := by
  unfold iv
  have h1 := h.new (.cells #[.int .u8 6, .int .u8 f1, .int .i64 f2, .int .i64 f3, .int .i64 f4, .int .i64 f5, .int .i64 f6] 38)
  have hb := BoxI.new W ⟨6, f1, f2, f3, f4, f5, f6⟩ 38
  obtain ⟨W1, hW1⟩ : ∃ W1, W.alloc (.cells #[.int .u8 6, .int .u8 f1, .int .i64 f2, .int .i64 f3, .int .i64 f4, .int .i64 f5, .int .i64 f6] 38) = W1 := ⟨_, rfl⟩
  simp only [hW1] at h1 hb
  obtain ⟨c0, c1, c2, c3, c4, c5, c6⟩ := hb
  have g0 := h1.c_r
  have l1 : ∀ n, (Instr.lookup 128 (.map (some mp)) (.int .i64 f3) false).run Try.prog (W1.drewN n) = .ok (.int .i64 (m.r f3)) (W1.drewN n) := fun n => (h1.drew n).look f3
  have l2 : ∀ n, (Instr.lookup 128 (.map (some mp)) (.int .i64 f4) false).run Try.prog (W1.drewN n) = .ok (.int .i64 (m.r f4)) (W1.drewN n) := fun n => (h1.drew n).look f4
  have HW := Lib.hid hW1
  have HH := Lib.hid h1
  clear hW1 h1
  have h0 := h
  clear h
  clear h0
  go_enter Try.func75, Try.ntmps75
  go_wp2
  rw [HW.out]
  go_quiet (fail)
  obtain ⟨W2, hW2⟩ : ∃ W2, W1.drewN nq = W2 := ⟨_, rfl⟩
  have hM2 : Mach B S w0 W2 p mp m e v al A c tv := hW2 ▸ HH.out.drew nq
  have d0 : ∀ a, W2.cell? a = W1.cell? a := fun a => by rw [← hW2]; rfl
  rw [hW2]
  have e0 := (d0 _).trans c0
  have e1 := (d0 _).trans c1
  have e2 := (d0 _).trans c2
  have e3 := (d0 _).trans c3
  have e4 := (d0 _).trans c4
  have e5 := (d0 _).trans c5
  have e6 := (d0 _).trans c6
  have g2 := hM2.c_r
  have HM := Lib.hid hM2
  clear hM2 d0 hW2 c0 c1 c2 c3 c4 c5 c6 g0 l1 l2
  obtain ⟨k, rfl⟩ : ∃ k : Nat, f6 = (k : Int) := ⟨f6.toNat, by omega⟩
  have HF := Lib.hid ((HM.out.drew 1).set_slot k (by omega) (m.r f3))
  have gs := HM.out.c_slot k (by omega)
  have gf := HM.out.frozen (1 + k)
  have b0 : (0 : Int) ≤ (k : Int) := by omega
  have b1 : (k : Int) < 16 := by omega
  go_wp2_with fail
  go_still_tail 7, (by kernel_rfl)
  change wpList _ _ _ _ _ (W2.drewN 1)
  go_wp2
  go_ret
  exact StepPost.yes (by simp [stepM]) HF.out
set_option maxRecDepth 100000 in
theorem step_2y (h : Mach B S w0 W p mp m e v al A c tv) (f1 f2 f3 f4 f5 f6 : Int) (hd : (doF f1 (m.r f3) (m.r f4)).2 = true) :
    Calls Try.prog 75 #[.pointer (some ⟨p, 0, none⟩), iv ⟨2, f1, f2, f3, f4, f5, f6⟩] W fun ε W' => StepPost B S w0 p mp m e v ⟨2, f1, f2, f3, f4, f5, f6⟩ ε W' := by
  unfold iv
  have h1 := h.new (.cells #[.int .u8 2, .int .u8 f1, .int .i64 f2, .int .i64 f3, .int .i64 f4, .int .i64 f5, .int .i64 f6] 38)
  have hb := BoxI.new W ⟨2, f1, f2, f3, f4, f5, f6⟩ 38
  obtain ⟨W1, hW1⟩ : ∃ W1, W.alloc (.cells #[.int .u8 2, .int .u8 f1, .int .i64 f2, .int .i64 f3, .int .i64 f4, .int .i64 f5, .int .i64 f6] 38) = W1 := ⟨_, rfl⟩
  simp only [hW1] at h1 hb
  obtain ⟨c0, c1, c2, c3, c4, c5, c6⟩ := hb
  have g0 := h1.c_r
  have l1 : ∀ n, (Instr.lookup 128 (.map (some mp)) (.int .i64 f3) false).run Try.prog (W1.drewN n) = .ok (.int .i64 (m.r f3)) (W1.drewN n) := fun n => (h1.drew n).look f3
  have l2 : ∀ n, (Instr.lookup 128 (.map (some mp)) (.int .i64 f4) false).run Try.prog (W1.drewN n) = .ok (.int .i64 (m.r f4)) (W1.drewN n) := fun n => (h1.drew n).look f4
  have HW := Lib.hid hW1
  have HH := Lib.hid h1
  clear hW1 h1
  have h0 := h
  clear h
  have HD := Lib.hid hd
  clear hd
  clear h0
  go_enter Try.func75, Try.ntmps75
  go_wp2
  rw [HW.out]
  go_quiet (fail)
  obtain ⟨W2, hW2⟩ : ∃ W2, W1.drewN nq = W2 := ⟨_, rfl⟩
  have hM2 : Mach B S w0 W2 p mp m e v al A c tv := hW2 ▸ HH.out.drew nq
  have d0 : ∀ a, W2.cell? a = W1.cell? a := fun a => by rw [← hW2]; rfl
  rw [hW2]
  have e0 := (d0 _).trans c0
  have e1 := (d0 _).trans c1
  have e2 := (d0 _).trans c2
  have e3 := (d0 _).trans c3
  have e4 := (d0 _).trans c4
  have e5 := (d0 _).trans c5
  have e6 := (d0 _).trans c6
  have g2 := hM2.c_r
  have HM := Lib.hid hM2
  clear hM2 d0 hW2 c0 c1 c2 c3 c4 c5 c6 g0 l1 l2
  go_wp2_with fail
  refine (do_calls f1 (m.r f3) (m.r f4) W2).mono ?_
  rintro ε w' ⟨rfl, nr, rfl⟩
  rw [HD.out]
  obtain ⟨W2b, hRW2b⟩ : ∃ X, W2.drewN nr = X := ⟨_, rfl⟩
  have hM2 : Mach B S w0 W2b p mp m e v al A c tv := hRW2b ▸ HM.out.drew nr
  have d0 : ∀ a, W2b.cell? a = W2.cell? a := fun a => by rw [← hRW2b]; rfl
  rw [hRW2b]
  replace e0 := (d0 _).trans e0
  replace e1 := (d0 _).trans e1
  replace e2 := (d0 _).trans e2
  replace e3 := (d0 _).trans e3
  replace e4 := (d0 _).trans e4
  replace e5 := (d0 _).trans e5
  replace e6 := (d0 _).trans e6
  replace g2 := hM2.c_r
  clear HM
  have HM := Lib.hid hM2
  clear hM2 d0 hRW2b
  obtain ⟨W3, hrun, hm3, ho3⟩ := run_updK (P := Try.prog) Try.underlying128 Try.underlying3 (HM.out.drew 1).map f2 (.int .i64 ((doF f1 (m.r f3) (m.r f4)).1))
  have HF := Lib.hid ((HM.out.drew 1).upd ho3 hm3)
  have HR := Lib.hid hrun
  clear hrun hm3 ho3
  go_wp2_with fail
  go_still_tail 7, (by kernel_rfl)
  change wpList _ _ _ _ _ (W2b.drewN 1)
  have hrun := HR.out
  generalize W2b.drewN 1 = W4 at *
  go_wp2
  go_ret
  exact StepPost.yes (by simp [stepM, HD.out]) HF.out
set_option maxRecDepth 100000 in
theorem step_2n (h : Mach B S w0 W p mp m e v al A c tv) (f1 f2 f3 f4 f5 f6 : Int) (hd : (doF f1 (m.r f3) (m.r f4)).2 = false) :
    Calls Try.prog 75 #[.pointer (some ⟨p, 0, none⟩), iv ⟨2, f1, f2, f3, f4, f5, f6⟩] W fun ε W' => StepPost B S w0 p mp m e v ⟨2, f1, f2, f3, f4, f5, f6⟩ ε W' := by
  unfold iv
  have h1 := h.new (.cells #[.int .u8 2, .int .u8 f1, .int .i64 f2, .int .i64 f3, .int .i64 f4, .int .i64 f5, .int .i64 f6] 38)
  have hb := BoxI.new W ⟨2, f1, f2, f3, f4, f5, f6⟩ 38
  obtain ⟨W1, hW1⟩ : ∃ W1, W.alloc (.cells #[.int .u8 2, .int .u8 f1, .int .i64 f2, .int .i64 f3, .int .i64 f4, .int .i64 f5, .int .i64 f6] 38) = W1 := ⟨_, rfl⟩
  simp only [hW1] at h1 hb
  obtain ⟨c0, c1, c2, c3, c4, c5, c6⟩ := hb
  have g0 := h1.c_r
  have l1 : ∀ n, (Instr.lookup 128 (.map (some mp)) (.int .i64 f3) false).run Try.prog (W1.drewN n) = .ok (.int .i64 (m.r f3)) (W1.drewN n) := fun n => (h1.drew n).look f3
  have l2 : ∀ n, (Instr.lookup 128 (.map (some mp)) (.int .i64 f4) false).run Try.prog (W1.drewN n) = .ok (.int .i64 (m.r f4)) (W1.drewN n) := fun n => (h1.drew n).look f4
  have HW := Lib.hid hW1
  have HH := Lib.hid h1
  clear hW1 h1
  have h0 := h
  clear h
  have HD := Lib.hid hd
  clear hd
  clear h0
  go_enter Try.func75, Try.ntmps75
  go_wp2
  rw [HW.out]
  go_quiet (fail)
  obtain ⟨W2, hW2⟩ : ∃ W2, W1.drewN nq = W2 := ⟨_, rfl⟩
  have hM2 : Mach B S w0 W2 p mp m e v al A c tv := hW2 ▸ HH.out.drew nq
  have d0 : ∀ a, W2.cell? a = W1.cell? a := fun a => by rw [← hW2]; rfl
  rw [hW2]
  have e0 := (d0 _).trans c0
  have e1 := (d0 _).trans c1
  have e2 := (d0 _).trans c2
  have e3 := (d0 _).trans c3
  have e4 := (d0 _).trans c4
  have e5 := (d0 _).trans c5
  have e6 := (d0 _).trans c6
  have g2 := hM2.c_r
  have HM := Lib.hid hM2
  clear hM2 d0 hW2 c0 c1 c2 c3 c4 c5 c6 g0 l1 l2
  go_wp2_with fail
  refine (do_calls f1 (m.r f3) (m.r f4) W2).mono ?_
  rintro ε w' ⟨rfl, nr, rfl⟩
  rw [HD.out]
  obtain ⟨W2b, hRW2b⟩ : ∃ X, W2.drewN nr = X := ⟨_, rfl⟩
  have hM2 : Mach B S w0 W2b p mp m e v al A c tv := hRW2b ▸ HM.out.drew nr
  have d0 : ∀ a, W2b.cell? a = W2.cell? a := fun a => by rw [← hRW2b]; rfl
  rw [hRW2b]
  replace e0 := (d0 _).trans e0
  replace e1 := (d0 _).trans e1
  replace e2 := (d0 _).trans e2
  replace e3 := (d0 _).trans e3
  replace e4 := (d0 _).trans e4
  replace e5 := (d0 _).trans e5
  replace e6 := (d0 _).trans e6
  replace g2 := hM2.c_r
  clear HM
  have HM := Lib.hid hM2
  clear hM2 d0 hRW2b
  go_wp2
  go_ret
  exact StepPost.no (by simp [stepM, HD.out]) HM.out
set_option maxRecDepth 100000 in
theorem step_7n (h : Mach B S w0 W p mp m e v al A c tv) (f1 f2 f3 f4 f5 f6 : Int) (ha : ¬ (0 ≤ m.r f3 ∧ m.r f3 < 64)) :
    Calls Try.prog 75 #[.pointer (some ⟨p, 0, none⟩), iv ⟨7, f1, f2, f3, f4, f5, f6⟩] W fun ε W' => StepPost B S w0 p mp m e v ⟨7, f1, f2, f3, f4, f5, f6⟩ ε W' := by
  unfold iv
  have h1 := h.new (.cells #[.int .u8 7, .int .u8 f1, .int .i64 f2, .int .i64 f3, .int .i64 f4, .int .i64 f5, .int .i64 f6] 38)
  have hb := BoxI.new W ⟨7, f1, f2, f3, f4, f5, f6⟩ 38
  obtain ⟨W1, hW1⟩ : ∃ W1, W.alloc (.cells #[.int .u8 7, .int .u8 f1, .int .i64 f2, .int .i64 f3, .int .i64 f4, .int .i64 f5, .int .i64 f6] 38) = W1 := ⟨_, rfl⟩
  simp only [hW1] at h1 hb
  obtain ⟨c0, c1, c2, c3, c4, c5, c6⟩ := hb
  have g0 := h1.c_r
  have l1 : ∀ n, (Instr.lookup 128 (.map (some mp)) (.int .i64 f3) false).run Try.prog (W1.drewN n) = .ok (.int .i64 (m.r f3)) (W1.drewN n) := fun n => (h1.drew n).look f3
  have l2 : ∀ n, (Instr.lookup 128 (.map (some mp)) (.int .i64 f4) false).run Try.prog (W1.drewN n) = .ok (.int .i64 (m.r f4)) (W1.drewN n) := fun n => (h1.drew n).look f4
  have HW := Lib.hid hW1
  have HH := Lib.hid h1
  clear hW1 h1
  have h0 := h
  clear h
  have HK := Lib.hid ha
  clear ha
  clear h0
  go_enter Try.func75, Try.ntmps75
  go_wp2
  rw [HW.out]
  go_quiet (fail)
  obtain ⟨W2, hW2⟩ : ∃ W2, W1.drewN nq = W2 := ⟨_, rfl⟩
  have hM2 : Mach B S w0 W2 p mp m e v al A c tv := hW2 ▸ HH.out.drew nq
  have d0 : ∀ a, W2.cell? a = W1.cell? a := fun a => by rw [← hW2]; rfl
  rw [hW2]
  have e0 := (d0 _).trans c0
  have e1 := (d0 _).trans c1
  have e2 := (d0 _).trans c2
  have e3 := (d0 _).trans c3
  have e4 := (d0 _).trans c4
  have e5 := (d0 _).trans c5
  have e6 := (d0 _).trans c6
  have g2 := hM2.c_r
  have HM := Lib.hid hM2
  clear hM2 d0 hW2 c0 c1 c2 c3 c4 c5 c6 g0 l1 l2
  go_wp2_with fail
  refine (cell_no p W2 (m.r f3) HK.out).mono ?_
  rintro ε w' ⟨rfl, rfl⟩
  go_wp2
  go_ret
  exact StepPost.no (by have := HK.out; simp [stepM]; omega) HM.out
set_option maxRecDepth 100000 in
theorem step_8n (h : Mach B S w0 W p mp m e v al A c tv) (f1 f2 f3 f4 f5 f6 : Int) (ha : ¬ (0 ≤ m.r f3 ∧ m.r f3 < 64)) :
    Calls Try.prog 75 #[.pointer (some ⟨p, 0, none⟩), iv ⟨8, f1, f2, f3, f4, f5, f6⟩] W fun ε W' => StepPost B S w0 p mp m e v ⟨8, f1, f2, f3, f4, f5, f6⟩ ε W' := by
  unfold iv
  have h1 := h.new (.cells #[.int .u8 8, .int .u8 f1, .int .i64 f2, .int .i64 f3, .int .i64 f4, .int .i64 f5, .int .i64 f6] 38)
  have hb := BoxI.new W ⟨8, f1, f2, f3, f4, f5, f6⟩ 38
  obtain ⟨W1, hW1⟩ : ∃ W1, W.alloc (.cells #[.int .u8 8, .int .u8 f1, .int .i64 f2, .int .i64 f3, .int .i64 f4, .int .i64 f5, .int .i64 f6] 38) = W1 := ⟨_, rfl⟩
  simp only [hW1] at h1 hb
  obtain ⟨c0, c1, c2, c3, c4, c5, c6⟩ := hb
  have g0 := h1.c_r
  have l1 : ∀ n, (Instr.lookup 128 (.map (some mp)) (.int .i64 f3) false).run Try.prog (W1.drewN n) = .ok (.int .i64 (m.r f3)) (W1.drewN n) := fun n => (h1.drew n).look f3
  have l2 : ∀ n, (Instr.lookup 128 (.map (some mp)) (.int .i64 f4) false).run Try.prog (W1.drewN n) = .ok (.int .i64 (m.r f4)) (W1.drewN n) := fun n => (h1.drew n).look f4
  have HW := Lib.hid hW1
  have HH := Lib.hid h1
  clear hW1 h1
  have h0 := h
  clear h
  have HK := Lib.hid ha
  clear ha
  clear h0
  go_enter Try.func75, Try.ntmps75
  go_wp2
  rw [HW.out]
  go_quiet (fail)
  obtain ⟨W2, hW2⟩ : ∃ W2, W1.drewN nq = W2 := ⟨_, rfl⟩
  have hM2 : Mach B S w0 W2 p mp m e v al A c tv := hW2 ▸ HH.out.drew nq
  have d0 : ∀ a, W2.cell? a = W1.cell? a := fun a => by rw [← hW2]; rfl
  rw [hW2]
  have e0 := (d0 _).trans c0
  have e1 := (d0 _).trans c1
  have e2 := (d0 _).trans c2
  have e3 := (d0 _).trans c3
  have e4 := (d0 _).trans c4
  have e5 := (d0 _).trans c5
  have e6 := (d0 _).trans c6
  have g2 := hM2.c_r
  have HM := Lib.hid hM2
  clear hM2 d0 hW2 c0 c1 c2 c3 c4 c5 c6 g0 l1 l2
  go_wp2_with fail
  refine (cell_no p W2 (m.r f3) HK.out).mono ?_
  rintro ε w' ⟨rfl, rfl⟩
  go_wp2
  go_ret
  exact StepPost.no (by have := HK.out; simp [stepM]; omega) HM.out
set_option maxRecDepth 100000 in
theorem step_7y (h : Mach B S w0 W p mp m e v al A c tv) (f1 f2 f3 f4 f5 f6 : Int) (k : Nat) (hk : k < 64) (ha : m.r f3 = (k : Int)) :
    Calls Try.prog 75 #[.pointer (some ⟨p, 0, none⟩), iv ⟨7, f1, f2, f3, f4, f5, f6⟩] W fun ε W' => StepPost B S w0 p mp m e v ⟨7, f1, f2, f3, f4, f5, f6⟩ ε W' := by
  unfold iv
  have h1 := h.new (.cells #[.int .u8 7, .int .u8 f1, .int .i64 f2, .int .i64 f3, .int .i64 f4, .int .i64 f5, .int .i64 f6] 38)
  have hb := BoxI.new W ⟨7, f1, f2, f3, f4, f5, f6⟩ 38
  obtain ⟨W1, hW1⟩ : ∃ W1, W.alloc (.cells #[.int .u8 7, .int .u8 f1, .int .i64 f2, .int .i64 f3, .int .i64 f4, .int .i64 f5, .int .i64 f6] 38) = W1 := ⟨_, rfl⟩
  simp only [hW1] at h1 hb
  obtain ⟨c0, c1, c2, c3, c4, c5, c6⟩ := hb
  have g0 := h1.c_r
  have l1 : ∀ n, (Instr.lookup 128 (.map (some mp)) (.int .i64 f3) false).run Try.prog (W1.drewN n) = .ok (.int .i64 (m.r f3)) (W1.drewN n) := fun n => (h1.drew n).look f3
  have l2 : ∀ n, (Instr.lookup 128 (.map (some mp)) (.int .i64 f4) false).run Try.prog (W1.drewN n) = .ok (.int .i64 (m.r f4)) (W1.drewN n) := fun n => (h1.drew n).look f4
  have HW := Lib.hid hW1
  have HH := Lib.hid h1
  clear hW1 h1
  have h0 := h
  clear h
  have HK := Lib.hid ha
  clear ha
  clear h0
  go_enter Try.func75, Try.ntmps75
  go_wp2
  rw [HW.out]
  go_quiet (fail)
  obtain ⟨W2, hW2⟩ : ∃ W2, W1.drewN nq = W2 := ⟨_, rfl⟩
  have hM2 : Mach B S w0 W2 p mp m e v al A c tv := hW2 ▸ HH.out.drew nq
  have d0 : ∀ a, W2.cell? a = W1.cell? a := fun a => by rw [← hW2]; rfl
  rw [hW2]
  have e0 := (d0 _).trans c0
  have e1 := (d0 _).trans c1
  have e2 := (d0 _).trans c2
  have e3 := (d0 _).trans c3
  have e4 := (d0 _).trans c4
  have e5 := (d0 _).trans c5
  have e6 := (d0 _).trans c6
  have g2 := hM2.c_r
  have HM := Lib.hid hM2
  clear hM2 d0 hW2 c0 c1 c2 c3 c4 c5 c6 g0 l1 l2
  go_wp2_with fail
  rw [HK.out]
  refine (cell_yes p W2 k (by omega)).mono ?_
  rintro ε w' ⟨rfl, rfl⟩
  have gs := HM.out.c_mem k hk
  obtain ⟨sv, hsv⟩ : ∃ sv, m.mem.getD k 0 = sv := ⟨_, rfl⟩
  rw [hsv] at gs
  have hsv2 : m.mem[k]?.getD 0 = sv := by rw [← hsv, List.getD_eq_getElem?_getD]
  have HSV := Lib.hid hsv2
  clear hsv hsv2
  obtain ⟨W3, hrun, hm3, ho3⟩ := run_updK (P := Try.prog) Try.underlying128 Try.underlying3 (HM.out.drew 1).map f2 (.int .i64 sv)
  have HF := Lib.hid ((HM.out.drew 1).upd ho3 hm3)
  have HR := Lib.hid hrun
  clear hrun hm3 ho3
  go_wp2_with fail
  go_still_tail 9, (by kernel_rfl)
  change wpList _ _ _ _ _ (W2.drewN 1)
  have hrun := HR.out
  generalize W2.drewN 1 = W4 at *
  go_wp2
  go_ret
  exact StepPost.yes (by simp [stepM, HSV.out, HK.out]; omega; try simp [HK.out]) HF.out
set_option maxRecDepth 100000 in
theorem step_8y (h : Mach B S w0 W p mp m e v al A c tv) (f1 f2 f3 f4 f5 f6 : Int) (k : Nat) (hk : k < 64) (ha : m.r f3 = (k : Int)) :
    Calls Try.prog 75 #[.pointer (some ⟨p, 0, none⟩), iv ⟨8, f1, f2, f3, f4, f5, f6⟩] W fun ε W' => StepPost B S w0 p mp m e v ⟨8, f1, f2, f3, f4, f5, f6⟩ ε W' := by
  unfold iv
  have h1 := h.new (.cells #[.int .u8 8, .int .u8 f1, .int .i64 f2, .int .i64 f3, .int .i64 f4, .int .i64 f5, .int .i64 f6] 38)
  have hb := BoxI.new W ⟨8, f1, f2, f3, f4, f5, f6⟩ 38
  obtain ⟨W1, hW1⟩ : ∃ W1, W.alloc (.cells #[.int .u8 8, .int .u8 f1, .int .i64 f2, .int .i64 f3, .int .i64 f4, .int .i64 f5, .int .i64 f6] 38) = W1 := ⟨_, rfl⟩
  simp only [hW1] at h1 hb
  obtain ⟨c0, c1, c2, c3, c4, c5, c6⟩ := hb
  have g0 := h1.c_r
  have l1 : ∀ n, (Instr.lookup 128 (.map (some mp)) (.int .i64 f3) false).run Try.prog (W1.drewN n) = .ok (.int .i64 (m.r f3)) (W1.drewN n) := fun n => (h1.drew n).look f3
  have l2 : ∀ n, (Instr.lookup 128 (.map (some mp)) (.int .i64 f4) false).run Try.prog (W1.drewN n) = .ok (.int .i64 (m.r f4)) (W1.drewN n) := fun n => (h1.drew n).look f4
  have HW := Lib.hid hW1
  have HH := Lib.hid h1
  clear hW1 h1
  have h0 := h
  clear h
  have HK := Lib.hid ha
  clear ha
  clear h0
  go_enter Try.func75, Try.ntmps75
  go_wp2
  rw [HW.out]
  go_quiet (fail)
  obtain ⟨W2, hW2⟩ : ∃ W2, W1.drewN nq = W2 := ⟨_, rfl⟩
  have hM2 : Mach B S w0 W2 p mp m e v al A c tv := hW2 ▸ HH.out.drew nq
  have d0 : ∀ a, W2.cell? a = W1.cell? a := fun a => by rw [← hW2]; rfl
  rw [hW2]
  have e0 := (d0 _).trans c0
  have e1 := (d0 _).trans c1
  have e2 := (d0 _).trans c2
  have e3 := (d0 _).trans c3
  have e4 := (d0 _).trans c4
  have e5 := (d0 _).trans c5
  have e6 := (d0 _).trans c6
  have g2 := hM2.c_r
  have HM := Lib.hid hM2
  clear hM2 d0 hW2 c0 c1 c2 c3 c4 c5 c6 g0 l1 l2
  go_wp2_with fail
  rw [HK.out]
  refine (cell_yes p W2 k (by omega)).mono ?_
  rintro ε w' ⟨rfl, rfl⟩
  have gs := HM.out.c_mem k hk
  have gf := HM.out.frozen (17 + k)
  have HF := Lib.hid (HM.out.set_mem k hk (m.r f4))
  go_wp2
  go_ret
  exact StepPost.yes (by simp [stepM, HK.out]; omega) HF.out
set_option maxRecDepth 100000 in
theorem step_x (h : Mach B S w0 W p mp m e v al A c tv) (f0 f1 f2 f3 f4 f5 f6 : Int) (hx : f0 < 0 ∨ 8 < f0) :
    Calls Try.prog 75 #[.pointer (some ⟨p, 0, none⟩), iv ⟨f0, f1, f2, f3, f4, f5, f6⟩] W fun ε W' => StepPost B S w0 p mp m e v ⟨f0, f1, f2, f3, f4, f5, f6⟩ ε W' := by
  unfold iv
  have h1 := h.new (.cells #[.int .u8 f0, .int .u8 f1, .int .i64 f2, .int .i64 f3, .int .i64 f4, .int .i64 f5, .int .i64 f6] 38)
  have hb := BoxI.new W ⟨f0, f1, f2, f3, f4, f5, f6⟩ 38
  obtain ⟨W1, hW1⟩ : ∃ W1, W.alloc (.cells #[.int .u8 f0, .int .u8 f1, .int .i64 f2, .int .i64 f3, .int .i64 f4, .int .i64 f5, .int .i64 f6] 38) = W1 := ⟨_, rfl⟩
  simp only [hW1] at h1 hb
  obtain ⟨c0, c1, c2, c3, c4, c5, c6⟩ := hb
  have g0 := h1.c_r
  have l1 : ∀ n, (Instr.lookup 128 (.map (some mp)) (.int .i64 f3) false).run Try.prog (W1.drewN n) = .ok (.int .i64 (m.r f3)) (W1.drewN n) := fun n => (h1.drew n).look f3
  have l2 : ∀ n, (Instr.lookup 128 (.map (some mp)) (.int .i64 f4) false).run Try.prog (W1.drewN n) = .ok (.int .i64 (m.r f4)) (W1.drewN n) := fun n => (h1.drew n).look f4
  have HW := Lib.hid hW1
  have HH := Lib.hid h1
  clear hW1 h1
  have h0 := h
  clear h
  clear h0
  go_enter Try.func75, Try.ntmps75
  go_wp2
  rw [HW.out]
  go_quiet (fail)
  obtain ⟨W2, hW2⟩ : ∃ W2, W1.drewN nq = W2 := ⟨_, rfl⟩
  have hM2 : Mach B S w0 W2 p mp m e v al A c tv := hW2 ▸ HH.out.drew nq
  have d0 : ∀ a, W2.cell? a = W1.cell? a := fun a => by rw [← hW2]; rfl
  rw [hW2]
  have e0 := (d0 _).trans c0
  have e1 := (d0 _).trans c1
  have e2 := (d0 _).trans c2
  have e3 := (d0 _).trans c3
  have e4 := (d0 _).trans c4
  have e5 := (d0 _).trans c5
  have e6 := (d0 _).trans c6
  have g2 := hM2.c_r
  have HM := Lib.hid hM2
  clear hM2 d0 hW2 c0 c1 c2 c3 c4 c5 c6 g0 l1 l2
  have HS : stepM ⟨f0, f1, f2, f3, f4, f5, f6⟩ m = some m := by
    unfold stepM
    repeat rw [if_neg (by simp only; omega)]
  have q0 : (f0 == 0) = false := beq_eq_false_iff_ne.2 (by omega)
  have q1 : (f0 == 1) = false := beq_eq_false_iff_ne.2 (by omega)
  have q2 : (f0 == 2) = false := beq_eq_false_iff_ne.2 (by omega)
  have q3 : (f0 == 3) = false := beq_eq_false_iff_ne.2 (by omega)
  have q4 : (f0 == 4) = false := beq_eq_false_iff_ne.2 (by omega)
  have q5 : (f0 == 5) = false := beq_eq_false_iff_ne.2 (by omega)
  have q6 : (f0 == 6) = false := beq_eq_false_iff_ne.2 (by omega)
  have q7 : (f0 == 7) = false := beq_eq_false_iff_ne.2 (by omega)
  have q8 : (f0 == 8) = false := beq_eq_false_iff_ne.2 (by omega)
  clear hx
  have HSS := Lib.hid HS
  clear HS
  go_wp2
  go_ret
  exact StepPost.yes HSS.out HM.out
set_option maxRecDepth 100000 in
theorem step_3n (h : Mach B S w0 W p mp m e v al A c tv) (f1 f2 f3 f4 f5 f6 : Int) (ha : m.inp = []) :
    Calls Try.prog 75 #[.pointer (some ⟨p, 0, none⟩), iv ⟨3, f1, f2, f3, f4, f5, f6⟩] W fun ε W' => StepPost B S w0 p mp m e v ⟨3, f1, f2, f3, f4, f5, f6⟩ ε W' := by
  unfold iv
  have h1 := h.new (.cells #[.int .u8 3, .int .u8 f1, .int .i64 f2, .int .i64 f3, .int .i64 f4, .int .i64 f5, .int .i64 f6] 38)
  have hb := BoxI.new W ⟨3, f1, f2, f3, f4, f5, f6⟩ 38
  obtain ⟨W1, hW1⟩ : ∃ W1, W.alloc (.cells #[.int .u8 3, .int .u8 f1, .int .i64 f2, .int .i64 f3, .int .i64 f4, .int .i64 f5, .int .i64 f6] 38) = W1 := ⟨_, rfl⟩
  simp only [hW1] at h1 hb
  obtain ⟨c0, c1, c2, c3, c4, c5, c6⟩ := hb
  have g0 := h1.c_r
  have l1 : ∀ n, (Instr.lookup 128 (.map (some mp)) (.int .i64 f3) false).run Try.prog (W1.drewN n) = .ok (.int .i64 (m.r f3)) (W1.drewN n) := fun n => (h1.drew n).look f3
  have l2 : ∀ n, (Instr.lookup 128 (.map (some mp)) (.int .i64 f4) false).run Try.prog (W1.drewN n) = .ok (.int .i64 (m.r f4)) (W1.drewN n) := fun n => (h1.drew n).look f4
  have HW := Lib.hid hW1
  have HH := Lib.hid h1
  clear hW1 h1
  have h0 := h
  clear h
  have HK := Lib.hid ha
  clear ha
  clear h0
  go_enter Try.func75, Try.ntmps75
  go_wp2
  rw [HW.out]
  go_quiet (fail)
  obtain ⟨W2, hW2⟩ : ∃ W2, W1.drewN nq = W2 := ⟨_, rfl⟩
  have hM2 : Mach B S w0 W2 p mp m e v al A c tv := hW2 ▸ HH.out.drew nq
  have d0 : ∀ a, W2.cell? a = W1.cell? a := fun a => by rw [← hW2]; rfl
  rw [hW2]
  have e0 := (d0 _).trans c0
  have e1 := (d0 _).trans c1
  have e2 := (d0 _).trans c2
  have e3 := (d0 _).trans c3
  have e4 := (d0 _).trans c4
  have e5 := (d0 _).trans c5
  have e6 := (d0 _).trans c6
  have g2 := hM2.c_r
  have HM := Lib.hid hM2
  clear hM2 d0 hW2 c0 c1 c2 c3 c4 c5 c6 g0 l1 l2
  have gi := HM.out.c_in
  rw [HK.out] at gi
  go_wp2
  go_ret
  exact StepPost.no (by simp [stepM, HK.out]) HM.out
set_option maxRecDepth 100000 in
theorem step_3y (h : Mach B S w0 W p mp m e v al A c tv) (f1 f2 f3 f4 f5 f6 : Int) (x0 : Int) (t : List Int) (ha : m.inp = x0 :: t) (hc1 : ¬ c = 1) :
    Calls Try.prog 75 #[.pointer (some ⟨p, 0, none⟩), iv ⟨3, f1, f2, f3, f4, f5, f6⟩] W fun ε W' => StepPost B S w0 p mp m e v ⟨3, f1, f2, f3, f4, f5, f6⟩ ε W' := by
  unfold iv
  have h1 := h.new (.cells #[.int .u8 3, .int .u8 f1, .int .i64 f2, .int .i64 f3, .int .i64 f4, .int .i64 f5, .int .i64 f6] 38)
  have hb := BoxI.new W ⟨3, f1, f2, f3, f4, f5, f6⟩ 38
  obtain ⟨W1, hW1⟩ : ∃ W1, W.alloc (.cells #[.int .u8 3, .int .u8 f1, .int .i64 f2, .int .i64 f3, .int .i64 f4, .int .i64 f5, .int .i64 f6] 38) = W1 := ⟨_, rfl⟩
  simp only [hW1] at h1 hb
  obtain ⟨c0, c1, c2, c3, c4, c5, c6⟩ := hb
  have g0 := h1.c_r
  have l1 : ∀ n, (Instr.lookup 128 (.map (some mp)) (.int .i64 f3) false).run Try.prog (W1.drewN n) = .ok (.int .i64 (m.r f3)) (W1.drewN n) := fun n => (h1.drew n).look f3
  have l2 : ∀ n, (Instr.lookup 128 (.map (some mp)) (.int .i64 f4) false).run Try.prog (W1.drewN n) = .ok (.int .i64 (m.r f4)) (W1.drewN n) := fun n => (h1.drew n).look f4
  have HW := Lib.hid hW1
  have HH := Lib.hid h1
  clear hW1 h1
  have h0 := h
  clear h
  have HK := Lib.hid ha
  clear ha
  have hq0 : W.heap.size ≠ mp := fun e => by have := h0.lt.2; omega
  have HQ := Lib.hid hq0
  clear hq0
  clear h0
  go_enter Try.func75, Try.ntmps75
  go_wp2
  rw [HW.out]
  go_quiet (fail)
  obtain ⟨W2, hW2⟩ : ∃ W2, W1.drewN nq = W2 := ⟨_, rfl⟩
  have hM2 : Mach B S w0 W2 p mp m e v al A c tv := hW2 ▸ HH.out.drew nq
  have d0 : ∀ a, W2.cell? a = W1.cell? a := fun a => by rw [← hW2]; rfl
  rw [hW2]
  have e0 := (d0 _).trans c0
  have e1 := (d0 _).trans c1
  have e2 := (d0 _).trans c2
  have e3 := (d0 _).trans c3
  have e4 := (d0 _).trans c4
  have e5 := (d0 _).trans c5
  have e6 := (d0 _).trans c6
  have g2 := hM2.c_r
  have HM := Lib.hid hM2
  clear hM2 d0 hW2 c0 c1 c2 c3 c4 c5 c6 g0 l1 l2
  obtain ⟨g, o, rfl, hgB, hc, gi, hcap, hmax, hrd⟩ := HM.out.in_cell HK.out
  obtain ⟨W3, st, u0, hrun, ho3, hnext⟩ := run_entryK (P := Try.prog) Try.underlying128 Try.underlying3 (z := .int .i64 0) (fun w => by kernel_rfl) (HM.out.drew 1).map f2
  obtain ⟨W4, hrun2, hm4, ho4⟩ := hnext W3 rfl (.int .i64 x0)
  have hM4 := (HM.out.drew 1).upd (ho3.trans ho4 (fun _ _ h => h)) hm4
  have gf := hM4.frozen 81
  have gc := hM4.c_in
  have hqm : W.heap.size ≠ mp := HQ.out
  have hgm : g ≠ mp := by have := HM.out.sB _ HM.out.sm; omega
  have hpm : p ≠ mp := fun e => HM.out.ne e.symm
  have hS2 : W2.drew.cell? ⟨p, 0, none⟩ = some (.map (some mp)) ∧ W2.drew.cell? ⟨W.heap.size, 2, none⟩ = some (.int .i64 f2) ∧ W2.drew.cell? ⟨p, 81, none⟩ = some (.slice (some ⟨g, o, none⟩) (t.length + 1) c) ∧ W2.drew.cell? ⟨g, o, none⟩ = some (.int .i64 x0) := ⟨g2, e2, gi, hc⟩
  have hS3 : W3.cell? ⟨p, 0, none⟩ = some (.map (some mp)) ∧ W3.cell? ⟨W.heap.size, 2, none⟩ = some (.int .i64 f2) ∧ W3.cell? ⟨p, 81, none⟩ = some (.slice (some ⟨g, o, none⟩) (t.length + 1) c) ∧ W3.cell? ⟨g, o, none⟩ = some (.int .i64 x0) :=
    ⟨(ho3.cell (World.block_lt_of_cell? _ _ hS2.1) hpm).trans hS2.1, (ho3.cell (World.block_lt_of_cell? _ _ hS2.2.1) hqm).trans hS2.2.1, (ho3.cell (World.block_lt_of_cell? _ _ hS2.2.2.1) hpm).trans hS2.2.2.1, (ho3.cell (World.block_lt_of_cell? _ _ hS2.2.2.2) hgm).trans hS2.2.2.2⟩
  have hS4 : W4.cell? ⟨p, 0, none⟩ = some (.map (some mp)) ∧ W4.cell? ⟨W.heap.size, 2, none⟩ = some (.int .i64 f2) ∧ W4.cell? ⟨p, 81, none⟩ = some (.slice (some ⟨g, o, none⟩) (t.length + 1) c) ∧ W4.cell? ⟨g, o, none⟩ = some (.int .i64 x0) :=
    ⟨(ho4.cell (World.block_lt_of_cell? _ _ hS3.1) hpm).trans hS3.1, (ho4.cell (World.block_lt_of_cell? _ _ hS3.2.1) hqm).trans hS3.2.1, (ho4.cell (World.block_lt_of_cell? _ _ hS3.2.2.1) hpm).trans hS3.2.2.1, (ho4.cell (World.block_lt_of_cell? _ _ hS3.2.2.2) hgm).trans hS3.2.2.2⟩
  have HF := Lib.hid (hM4.set_in (some ⟨g, (o + 1), none⟩) (c - 1) t hrd (by omega) (fun g' o' s' e hl => by injection e with e; injection e with e _ _; rw [← e]; exact hgB))
  have HSS := Lib.hid (And.intro hS2 (And.intro hS3 hS4))
  change (Instr.mapEntry _ _ _).run Try.prog W2.drew = _ at hrun
  clear hm4 ho3 ho4 hnext hM4 hrd hS2 hS3 hS4 gc
  have hl : (((t.length : Int) + 1) == 0) = false := beq_eq_false_iff_ne.2 (by omega)
  have hl2 : ¬ ((t.length : Int) + 1 = 0) := by omega
  have hl3 : (1 : Int) ≤ (t.length : Int) + 1 := by omega
  go_wp2_with fail
  refine wp_region_Z (S := (fun W' => W'.cell? ⟨p, 0, none⟩ = some (.map (some mp)) ∧ W'.cell? ⟨W.heap.size, 2, none⟩ = some (.int .i64 f2) ∧ W'.cell? ⟨p, 81, none⟩ = some (.slice (some ⟨g, o, none⟩) (t.length + 1) c) ∧ W'.cell? ⟨g, o, none⟩ = some (.int .i64 x0))) (z := 23) (by kernel_rfl) (by first | exact HSS.out.1 | exact HSS.out.2.1 | exact HSS.out.2.2) (fun hHeld => ?_)
  refine wpAnyZ_take (i := 0) (oi := { dst := some 75, op := Go.Op.move (Go.Operand.tmp 0), type := 127, pos := "run.go:70", after := #[], guard := none }) (v := ?_) rfl (by kernel_rfl) (by kernel_rfl) (by kernel_rfl) (by kernel_rfl) (fun _ _ _ h => h) (Or.inl ⟨by rfl, ?_⟩) (by assumption) ?_
  rotate_left 1
  · intro w hSw; (try dsimp only at hSw); go_simp; try with_reducible rfl
  try simp only [Act.put, List.setIfInBounds_toArray, List.set_cons_zero, List.set_cons_succ]
  refine wpAnyZ_take (i := 1) (oi := { dst := some 76, op := Go.Op.nilCheck (Go.Operand.tmp 75), type := 0, pos := "run.go:70", after := #[{ on := 0, ground := Go.Ground.data }], guard := none }) (v := ?_) rfl (by kernel_rfl) (by kernel_rfl) (by kernel_rfl) (by kernel_rfl) (fun _ _ _ h => h) (Or.inl ⟨by rfl, ?_⟩) (by assumption) ?_
  rotate_left 1
  · intro w hSw; (try dsimp only at hSw); go_simp; try with_reducible rfl
  try simp only [Act.put, List.setIfInBounds_toArray, List.set_cons_zero, List.set_cons_succ]
  refine wpAnyZ_take (i := 2) (oi := { dst := some 77, op := Go.Op.fieldAddr 132 (Go.Operand.tmp 76) 0, type := 0, pos := "run.go:70", after := #[{ on := 1, ground := Go.Ground.data }], guard := none }) (v := ?_) rfl (by kernel_rfl) (by kernel_rfl) (by kernel_rfl) (by kernel_rfl) (fun _ _ _ h => h) (Or.inl ⟨by rfl, ?_⟩) (by assumption) ?_
  rotate_left 1
  · intro w hSw; (try dsimp only at hSw); go_simp; try with_reducible rfl
  try simp only [Act.put, List.setIfInBounds_toArray, List.set_cons_zero, List.set_cons_succ]
  refine wpAnyZ_take (i := 3) (oi := { dst := some 78, op := Go.Op.load 128 (Go.Operand.tmp 77), type := 128, pos := "run.go:70", after := #[{ on := 2, ground := Go.Ground.data }], guard := none }) (v := ?_) rfl (by kernel_rfl) (by kernel_rfl) (by kernel_rfl) (by kernel_rfl) (fun _ _ _ h => h) (Or.inl ⟨by rfl, ?_⟩) (by assumption) ?_
  rotate_left 1
  · intro w hSw; (try dsimp only at hSw); go_simp; try with_reducible rfl
  try simp only [Act.put, List.setIfInBounds_toArray, List.set_cons_zero, List.set_cons_succ]
  refine wpAnyZ_take (i := 4) (oi := { dst := some 79, op := Go.Op.fieldAddr 38 (Go.Operand.tmp 3) 2, type := 0, pos := "run.go:70", after := #[], guard := none }) (v := ?_) rfl (by kernel_rfl) (by kernel_rfl) (by kernel_rfl) (by kernel_rfl) (fun _ _ _ h => h) (Or.inl ⟨by rfl, ?_⟩) (by assumption) ?_
  rotate_left 1
  · intro w hSw; (try dsimp only at hSw); go_simp; try with_reducible rfl
  try simp only [Act.put, List.setIfInBounds_toArray, List.set_cons_zero, List.set_cons_succ]
  refine wpAnyZ_take (i := 5) (oi := { dst := some 80, op := Go.Op.load 3 (Go.Operand.tmp 79), type := 3, pos := "run.go:70", after := #[{ on := 4, ground := Go.Ground.data }], guard := none }) (v := ?_) rfl (by kernel_rfl) (by kernel_rfl) (by kernel_rfl) (by kernel_rfl) (fun _ _ _ h => h) (Or.inl ⟨by rfl, ?_⟩) (by assumption) ?_
  rotate_left 1
  · intro w hSw; (try dsimp only at hSw); go_simp; try with_reducible rfl
  try simp only [Act.put, List.setIfInBounds_toArray, List.set_cons_zero, List.set_cons_succ]
  refine wpAnyZ_take (i := 6) (oi := { dst := some 81, op := Go.Op.move (Go.Operand.tmp 0), type := 127, pos := "run.go:70", after := #[{ on := 20, ground := Go.Ground.gcOnly Go.Departure.lateStores }], guard := none }) (v := ?_) rfl (by kernel_rfl) (by kernel_rfl) (by kernel_rfl) (by kernel_rfl) (fun _ _ _ h => h) (Or.inl ⟨by rfl, ?_⟩) (by assumption) ?_
  rotate_left 1
  · intro w hSw; (try dsimp only at hSw); go_simp; try with_reducible rfl
  try simp only [Act.put, List.setIfInBounds_toArray, List.set_cons_zero, List.set_cons_succ]
  refine wpAnyZ_take (i := 7) (oi := { dst := some 82, op := Go.Op.move (Go.Operand.tmp 0), type := 127, pos := "run.go:70", after := #[{ on := 18, ground := Go.Ground.gcOnly Go.Departure.tupleMapEntryFirst }], guard := none }) (v := ?_) rfl (by kernel_rfl) (by kernel_rfl) (by kernel_rfl) (by kernel_rfl) (fun _ _ _ h => h) (Or.inl ⟨by rfl, ?_⟩) (by assumption) ?_
  rotate_left 1
  · intro w hSw; (try dsimp only at hSw); go_simp; try with_reducible rfl
  try simp only [Act.put, List.setIfInBounds_toArray, List.set_cons_zero, List.set_cons_succ]
  refine wpAnyZ_take (i := 8) (oi := { dst := some 83, op := Go.Op.nilCheck (Go.Operand.tmp 82), type := 0, pos := "run.go:70", after := #[{ on := 7, ground := Go.Ground.data }, { on := 18, ground := Go.Ground.gcOnly Go.Departure.tupleMapEntryFirst }], guard := none }) (v := ?_) rfl (by kernel_rfl) (by kernel_rfl) (by kernel_rfl) (by kernel_rfl) (fun _ _ _ h => h) (Or.inl ⟨by rfl, ?_⟩) (by assumption) ?_
  rotate_left 1
  · intro w hSw; (try dsimp only at hSw); go_simp; try with_reducible rfl
  try simp only [Act.put, List.setIfInBounds_toArray, List.set_cons_zero, List.set_cons_succ]
  refine wpAnyZ_take (i := 9) (oi := { dst := some 84, op := Go.Op.fieldAddr 132 (Go.Operand.tmp 83) 3, type := 0, pos := "run.go:70", after := #[{ on := 8, ground := Go.Ground.data }, { on := 18, ground := Go.Ground.gcOnly Go.Departure.tupleMapEntryFirst }], guard := none }) (v := ?_) rfl (by kernel_rfl) (by kernel_rfl) (by kernel_rfl) (by kernel_rfl) (fun _ _ _ h => h) (Or.inl ⟨by rfl, ?_⟩) (by assumption) ?_
  rotate_left 1
  · intro w hSw; (try dsimp only at hSw); go_simp; try with_reducible rfl
  try simp only [Act.put, List.setIfInBounds_toArray, List.set_cons_zero, List.set_cons_succ]
  refine wpAnyZ_take (i := 10) (oi := { dst := some 85, op := Go.Op.load 54 (Go.Operand.tmp 84), type := 54, pos := "run.go:70", after := #[{ on := 9, ground := Go.Ground.data }, { on := 18, ground := Go.Ground.gcOnly Go.Departure.tupleMapEntryFirst }], guard := none }) (v := ?_) rfl (by kernel_rfl) (by kernel_rfl) (by kernel_rfl) (by kernel_rfl) (fun _ _ _ h => h) (Or.inl ⟨by rfl, ?_⟩) (by assumption) ?_
  rotate_left 1
  · intro w hSw; (try dsimp only at hSw); go_simp; try with_reducible rfl
  try simp only [Act.put, List.setIfInBounds_toArray, List.set_cons_zero, List.set_cons_succ]
  refine wpAnyZ_take (i := 11) (oi := { dst := some 86, op := Go.Op.indexAddr 54 (Go.Operand.tmp 85) (Go.Operand.const (Go.Value.int Go.IntKind.i64 0)), type := 0, pos := "run.go:70", after := #[{ on := 10, ground := Go.Ground.data }, { on := 18, ground := Go.Ground.gcOnly Go.Departure.tupleMapEntryFirst }], guard := none }) (v := ?_) rfl (by kernel_rfl) (by kernel_rfl) (by kernel_rfl) (by kernel_rfl) (fun _ _ _ h => h) (Or.inl ⟨by rfl, ?_⟩) (by assumption) ?_
  rotate_left 1
  · intro w hSw; (try dsimp only at hSw); go_simp; try with_reducible rfl
  try simp only [Act.put, List.setIfInBounds_toArray, List.set_cons_zero, List.set_cons_succ]
  refine wpAnyZ_take (i := 12) (oi := { dst := some 87, op := Go.Op.load 2 (Go.Operand.tmp 86), type := 2, pos := "run.go:70", after := #[{ on := 11, ground := Go.Ground.data }, { on := 18, ground := Go.Ground.gcOnly Go.Departure.tupleMapEntryFirst }], guard := none }) (v := ?_) rfl (by kernel_rfl) (by kernel_rfl) (by kernel_rfl) (by kernel_rfl) (fun _ _ _ h => h) (Or.inl ⟨by rfl, ?_⟩) (by assumption) ?_
  rotate_left 1
  · intro w hSw; (try dsimp only at hSw); go_simp; try with_reducible rfl
  try simp only [Act.put, List.setIfInBounds_toArray, List.set_cons_zero, List.set_cons_succ]
  refine wpAnyZ_take (i := 13) (oi := { dst := some 88, op := Go.Op.move (Go.Operand.tmp 0), type := 127, pos := "run.go:70", after := #[], guard := none }) (v := ?_) rfl (by kernel_rfl) (by kernel_rfl) (by kernel_rfl) (by kernel_rfl) (fun _ _ _ h => h) (Or.inl ⟨by rfl, ?_⟩) (by assumption) ?_
  rotate_left 1
  · intro w hSw; (try dsimp only at hSw); go_simp; try with_reducible rfl
  try simp only [Act.put, List.setIfInBounds_toArray, List.set_cons_zero, List.set_cons_succ]
  refine wpAnyZ_take (i := 14) (oi := { dst := some 89, op := Go.Op.nilCheck (Go.Operand.tmp 88), type := 0, pos := "run.go:70", after := #[{ on := 13, ground := Go.Ground.data }], guard := none }) (v := ?_) rfl (by kernel_rfl) (by kernel_rfl) (by kernel_rfl) (by kernel_rfl) (fun _ _ _ h => h) (Or.inl ⟨by rfl, ?_⟩) (by assumption) ?_
  rotate_left 1
  · intro w hSw; (try dsimp only at hSw); go_simp; try with_reducible rfl
  try simp only [Act.put, List.setIfInBounds_toArray, List.set_cons_zero, List.set_cons_succ]
  refine wpAnyZ_take (i := 15) (oi := { dst := some 90, op := Go.Op.fieldAddr 132 (Go.Operand.tmp 89) 3, type := 0, pos := "run.go:70", after := #[{ on := 14, ground := Go.Ground.data }], guard := none }) (v := ?_) rfl (by kernel_rfl) (by kernel_rfl) (by kernel_rfl) (by kernel_rfl) (fun _ _ _ h => h) (Or.inl ⟨by rfl, ?_⟩) (by assumption) ?_
  rotate_left 1
  · intro w hSw; (try dsimp only at hSw); go_simp; try with_reducible rfl
  try simp only [Act.put, List.setIfInBounds_toArray, List.set_cons_zero, List.set_cons_succ]
  refine wpAnyZ_take (i := 16) (oi := { dst := some 91, op := Go.Op.load 54 (Go.Operand.tmp 90), type := 54, pos := "run.go:70", after := #[{ on := 15, ground := Go.Ground.data }], guard := none }) (v := ?_) rfl (by kernel_rfl) (by kernel_rfl) (by kernel_rfl) (by kernel_rfl) (fun _ _ _ h => h) (Or.inl ⟨by rfl, ?_⟩) (by assumption) ?_
  rotate_left 1
  · intro w hSw; (try dsimp only at hSw); go_simp; try with_reducible rfl
  try simp only [Act.put, List.setIfInBounds_toArray, List.set_cons_zero, List.set_cons_succ]
  refine wpAnyZ_take (i := 17) (oi := { dst := some 92, op := Go.Op.slice 54 (Go.Operand.tmp 91) (some (Go.Operand.const (Go.Value.int Go.IntKind.i64 1))) none none, type := 54, pos := "run.go:70", after := #[{ on := 16, ground := Go.Ground.data }], guard := none }) (v := ?_) rfl (by kernel_rfl) (by kernel_rfl) (by kernel_rfl) (by kernel_rfl) (fun _ _ _ h => h) (Or.inl ⟨by rfl, ?_⟩) (by assumption) ?_
  rotate_left 1
  · intro w hSw; (try dsimp only at hSw); go_simp; try with_reducible rfl
  try simp only [Act.put, List.setIfInBounds_toArray, List.set_cons_zero, List.set_cons_succ]
  refine wpAnyZ_step (i := 18) (o := { dst := some 93, op := Go.Op.mapEntry 128 (Go.Operand.tmp 78) (Go.Operand.tmp 80), type := 0, pos := "run.go:70", after := #[{ on := 3, ground := Go.Ground.data }, { on := 5, ground := Go.Ground.data }, { on := 0, ground := Go.Ground.textOnly Go.Departure.tupleMapEntryFirst }, { on := 1, ground := Go.Ground.textOnly Go.Departure.tupleMapEntryFirst }, { on := 2, ground := Go.Ground.textOnly Go.Departure.tupleMapEntryFirst }, { on := 3, ground := Go.Ground.textOnly Go.Departure.tupleMapEntryFirst }, { on := 4, ground := Go.Ground.textOnly Go.Departure.tupleMapEntryFirst }, { on := 5, ground := Go.Ground.textOnly Go.Departure.tupleMapEntryFirst }, { on := 6, ground := Go.Ground.textOnly Go.Departure.lateStores }, { on := 7, ground := Go.Ground.textOnly Go.Departure.tupleMapEntryFirst }, { on := 8, ground := Go.Ground.textOnly Go.Departure.tupleMapEntryFirst }, { on := 9, ground := Go.Ground.textOnly Go.Departure.tupleMapEntryFirst }, { on := 10, ground := Go.Ground.textOnly Go.Departure.tupleMapEntryFirst }, { on := 11, ground := Go.Ground.textOnly Go.Departure.tupleMapEntryFirst }, { on := 12, ground := Go.Ground.textOnly Go.Departure.tupleMapEntryFirst }, { on := 13, ground := Go.Ground.textOnly Go.Departure.lateStores }, { on := 14, ground := Go.Ground.textOnly Go.Departure.lateStoresUnsure }, { on := 15, ground := Go.Ground.textOnly Go.Departure.lateStoresUnsure }, { on := 16, ground := Go.Ground.phase }, { on := 17, ground := Go.Ground.textOnly Go.Departure.lateStoresUnsure }], guard := none }) rfl (by kernel_rfl) (fun K hK => ?_)
  go_simp
  refine hK.out _ _ (fun _ => ?_) (fun hHeld1 => ?_)
  · (try dsimp only); first | exact HSS.out.1 | exact HSS.out.2.1 | exact HSS.out.2.2
  replace hHeld1 := hHeld1 (by decide)
  clear hK K hHeld
  try simp only [Act.put, List.setIfInBounds_toArray, List.set_cons_zero, List.set_cons_succ]
  refine wpAnyZ_take (i := 19) (oi := { dst := some 94, op := Go.Op.extract (Go.Operand.tmp 93) 1, type := 3, pos := "run.go:70", after := #[{ on := 18, ground := Go.Ground.data }], guard := none }) (v := ?_) rfl (by kernel_rfl) (by kernel_rfl) (by kernel_rfl) (by kernel_rfl) (fun _ _ _ h => h) (Or.inl ⟨by rfl, ?_⟩) (by assumption) ?_
  rotate_left 1
  · intro w hSw; (try dsimp only at hSw); go_simp; try with_reducible rfl
  try simp only [Act.put, List.setIfInBounds_toArray, List.set_cons_zero, List.set_cons_succ]
  refine wpAnyZ_step (i := 20) (o := { dst := none, op := Go.Op.entryStore 128 (Go.Operand.tmp 78) (Go.Operand.tmp 94) (Go.Operand.tmp 87), type := 0, pos := "run.go:70", after := #[{ on := 3, ground := Go.Ground.data }, { on := 19, ground := Go.Ground.data }, { on := 12, ground := Go.Ground.data }, { on := 18, ground := Go.Ground.chain }, { on := 0, ground := Go.Ground.phase }, { on := 1, ground := Go.Ground.phase }, { on := 2, ground := Go.Ground.phase }, { on := 3, ground := Go.Ground.phase }, { on := 4, ground := Go.Ground.phase }, { on := 5, ground := Go.Ground.phase }, { on := 6, ground := Go.Ground.textOnly Go.Departure.lateStores }, { on := 7, ground := Go.Ground.phase }, { on := 8, ground := Go.Ground.phase }, { on := 9, ground := Go.Ground.phase }, { on := 10, ground := Go.Ground.phase }, { on := 11, ground := Go.Ground.phase }, { on := 12, ground := Go.Ground.phase }, { on := 13, ground := Go.Ground.textOnly Go.Departure.lateStores }, { on := 14, ground := Go.Ground.textOnly Go.Departure.lateStoresUnsure }, { on := 15, ground := Go.Ground.textOnly Go.Departure.lateStoresUnsure }, { on := 16, ground := Go.Ground.phase }, { on := 17, ground := Go.Ground.textOnly Go.Departure.lateStoresUnsure }, { on := 18, ground := Go.Ground.phase }], guard := none }) rfl (by kernel_rfl) (fun K hK => ?_)
  go_simp
  refine hK.out _ _ (fun _ => ?_) (fun hHeld2 => ?_)
  · (try dsimp only); first | exact HSS.out.1 | exact HSS.out.2.1 | exact HSS.out.2.2
  replace hHeld2 := hHeld2 (by decide)
  clear hK K hHeld1
  try simp only [Act.put, List.setIfInBounds_toArray, List.set_cons_zero, List.set_cons_succ]
  refine wpAnyZ_step (i := 21) (o := { dst := some 95, op := Go.Op.nilCheck (Go.Operand.tmp 81), type := 0, pos := "run.go:70", after := #[{ on := 6, ground := Go.Ground.data }, { on := 0, ground := Go.Ground.phase }, { on := 1, ground := Go.Ground.phase }, { on := 2, ground := Go.Ground.phase }, { on := 3, ground := Go.Ground.phase }, { on := 4, ground := Go.Ground.phase }, { on := 5, ground := Go.Ground.phase }, { on := 6, ground := Go.Ground.phase }, { on := 7, ground := Go.Ground.phase }, { on := 8, ground := Go.Ground.phase }, { on := 9, ground := Go.Ground.phase }, { on := 10, ground := Go.Ground.phase }, { on := 11, ground := Go.Ground.phase }, { on := 12, ground := Go.Ground.phase }, { on := 13, ground := Go.Ground.phase }, { on := 14, ground := Go.Ground.phase }, { on := 15, ground := Go.Ground.phase }, { on := 16, ground := Go.Ground.phase }, { on := 17, ground := Go.Ground.phase }, { on := 18, ground := Go.Ground.phase }, { on := 19, ground := Go.Ground.phase }, { on := 20, ground := Go.Ground.phase }], guard := none }) rfl (by kernel_rfl) (fun K hK => ?_)
  go_simp
  refine hK.out _ _ (fun _ => ?_) (fun hHeld3 => ?_)
  · (try dsimp only); first | exact HSS.out.1 | exact HSS.out.2.1 | exact HSS.out.2.2
  replace hHeld3 := hHeld3 (by decide)
  clear hK K hHeld2
  try simp only [Act.put, List.setIfInBounds_toArray, List.set_cons_zero, List.set_cons_succ]
  refine wpAnyZ_take (i := 22) (oi := { dst := some 96, op := Go.Op.fieldAddr 132 (Go.Operand.tmp 95) 3, type := 0, pos := "run.go:70", after := #[{ on := 21, ground := Go.Ground.data }, { on := 0, ground := Go.Ground.phase }, { on := 1, ground := Go.Ground.phase }, { on := 2, ground := Go.Ground.phase }, { on := 3, ground := Go.Ground.phase }, { on := 4, ground := Go.Ground.phase }, { on := 5, ground := Go.Ground.phase }, { on := 6, ground := Go.Ground.phase }, { on := 7, ground := Go.Ground.phase }, { on := 8, ground := Go.Ground.phase }, { on := 9, ground := Go.Ground.phase }, { on := 10, ground := Go.Ground.phase }, { on := 11, ground := Go.Ground.phase }, { on := 12, ground := Go.Ground.phase }, { on := 13, ground := Go.Ground.phase }, { on := 14, ground := Go.Ground.phase }, { on := 15, ground := Go.Ground.phase }, { on := 16, ground := Go.Ground.phase }, { on := 17, ground := Go.Ground.phase }, { on := 18, ground := Go.Ground.phase }, { on := 19, ground := Go.Ground.phase }, { on := 20, ground := Go.Ground.phase }], guard := none }) (v := ?_) rfl (by kernel_rfl) (by kernel_rfl) (by kernel_rfl) (by kernel_rfl) (fun _ _ _ h => h) (Or.inl ⟨by rfl, ?_⟩) (by assumption) ?_
  rotate_left 1
  · intro w hSw; (try dsimp only at hSw); go_simp; try with_reducible rfl
  try simp only [Act.put, List.setIfInBounds_toArray, List.set_cons_zero, List.set_cons_succ]
  refine wpAnyZ_step (i := 23) (o := { dst := none, op := Go.Op.store 54 (Go.Operand.tmp 96) (Go.Operand.tmp 92), type := 0, pos := "run.go:70", after := #[{ on := 22, ground := Go.Ground.data }, { on := 17, ground := Go.Ground.data }, { on := 20, ground := Go.Ground.chain }, { on := 0, ground := Go.Ground.phase }, { on := 1, ground := Go.Ground.phase }, { on := 2, ground := Go.Ground.phase }, { on := 3, ground := Go.Ground.phase }, { on := 4, ground := Go.Ground.phase }, { on := 5, ground := Go.Ground.phase }, { on := 6, ground := Go.Ground.phase }, { on := 7, ground := Go.Ground.phase }, { on := 8, ground := Go.Ground.phase }, { on := 9, ground := Go.Ground.phase }, { on := 10, ground := Go.Ground.phase }, { on := 11, ground := Go.Ground.phase }, { on := 12, ground := Go.Ground.phase }, { on := 13, ground := Go.Ground.phase }, { on := 14, ground := Go.Ground.phase }, { on := 15, ground := Go.Ground.phase }, { on := 16, ground := Go.Ground.phase }, { on := 17, ground := Go.Ground.phase }, { on := 18, ground := Go.Ground.phase }, { on := 19, ground := Go.Ground.phase }, { on := 20, ground := Go.Ground.phase }], guard := none }) rfl (by kernel_rfl) (fun K hK => ?_)
  go_simp
  refine hK.out _ _ (fun h => absurd rfl h) (fun _ => ?_)
  clear hK K
  try simp only [Act.put, List.setIfInBounds_toArray, List.set_cons_zero, List.set_cons_succ]
  refine wpAnyZ_done (by kernel_rfl) ?_ _
  go_wp2
  go_ret
  exact StepPost.yes (by simp [stepM, HK.out, Mc.set]) HF.out
set_option maxRecDepth 100000 in
theorem step_3z (h : Mach B S w0 W p mp m e v al A c tv) (f1 f2 f3 f4 f5 f6 : Int) (x0 : Int) (t : List Int) (ha : m.inp = x0 :: t) (hc1 : c = 1) :
    Calls Try.prog 75 #[.pointer (some ⟨p, 0, none⟩), iv ⟨3, f1, f2, f3, f4, f5, f6⟩] W fun ε W' => StepPost B S w0 p mp m e v ⟨3, f1, f2, f3, f4, f5, f6⟩ ε W' := by
  unfold iv
  have h1 := h.new (.cells #[.int .u8 3, .int .u8 f1, .int .i64 f2, .int .i64 f3, .int .i64 f4, .int .i64 f5, .int .i64 f6] 38)
  have hb := BoxI.new W ⟨3, f1, f2, f3, f4, f5, f6⟩ 38
  obtain ⟨W1, hW1⟩ : ∃ W1, W.alloc (.cells #[.int .u8 3, .int .u8 f1, .int .i64 f2, .int .i64 f3, .int .i64 f4, .int .i64 f5, .int .i64 f6] 38) = W1 := ⟨_, rfl⟩
  simp only [hW1] at h1 hb
  obtain ⟨c0, c1, c2, c3, c4, c5, c6⟩ := hb
  have g0 := h1.c_r
  have l1 : ∀ n, (Instr.lookup 128 (.map (some mp)) (.int .i64 f3) false).run Try.prog (W1.drewN n) = .ok (.int .i64 (m.r f3)) (W1.drewN n) := fun n => (h1.drew n).look f3
  have l2 : ∀ n, (Instr.lookup 128 (.map (some mp)) (.int .i64 f4) false).run Try.prog (W1.drewN n) = .ok (.int .i64 (m.r f4)) (W1.drewN n) := fun n => (h1.drew n).look f4
  have HW := Lib.hid hW1
  have HH := Lib.hid h1
  clear hW1 h1
  have h0 := h
  clear h
  have HK := Lib.hid ha
  clear ha
  have hq0 : W.heap.size ≠ mp := fun e => by have := h0.lt.2; omega
  have HQ := Lib.hid hq0
  clear hq0
  have HC1 := Lib.hid hc1
  clear hc1
  clear h0
  go_enter Try.func75, Try.ntmps75
  go_wp2
  rw [HW.out]
  go_quiet (fail)
  obtain ⟨W2, hW2⟩ : ∃ W2, W1.drewN nq = W2 := ⟨_, rfl⟩
  have hM2 : Mach B S w0 W2 p mp m e v al A c tv := hW2 ▸ HH.out.drew nq
  have d0 : ∀ a, W2.cell? a = W1.cell? a := fun a => by rw [← hW2]; rfl
  rw [hW2]
  have e0 := (d0 _).trans c0
  have e1 := (d0 _).trans c1
  have e2 := (d0 _).trans c2
  have e3 := (d0 _).trans c3
  have e4 := (d0 _).trans c4
  have e5 := (d0 _).trans c5
  have e6 := (d0 _).trans c6
  have g2 := hM2.c_r
  have HM := Lib.hid hM2
  clear hM2 d0 hW2 c0 c1 c2 c3 c4 c5 c6 g0 l1 l2
  obtain ⟨g, o, rfl, hgB, hc, gi, hcap, hmax, hrd⟩ := HM.out.in_cell HK.out
  have hc1 := HC1.out
  subst hc1
  obtain rfl : t = [] := List.eq_nil_of_length_eq_zero (by omega)
  simp only [List.length_nil, Nat.zero_add] at gi hcap hmax hrd
  obtain ⟨W3, st, u0, hrun, ho3, hnext⟩ := run_entryK (P := Try.prog) Try.underlying128 Try.underlying3 (z := .int .i64 0) (fun w => by kernel_rfl) (HM.out.drew 1).map f2
  obtain ⟨W4, hrun2, hm4, ho4⟩ := hnext W3 rfl (.int .i64 x0)
  have hM4 := (HM.out.drew 1).upd (ho3.trans ho4 (fun _ _ h => h)) hm4
  have gf := hM4.frozen 81
  have gc := hM4.c_in
  have hqm : W.heap.size ≠ mp := HQ.out
  have hgm : g ≠ mp := by have := HM.out.sB _ HM.out.sm; omega
  have hpm : p ≠ mp := fun e => HM.out.ne e.symm
  have hS2 : W2.drew.cell? ⟨p, 0, none⟩ = some (.map (some mp)) ∧ W2.drew.cell? ⟨W.heap.size, 2, none⟩ = some (.int .i64 f2) ∧ W2.drew.cell? ⟨p, 81, none⟩ = some (.slice (some ⟨g, o, none⟩) 1 1) ∧ W2.drew.cell? ⟨g, o, none⟩ = some (.int .i64 x0) := ⟨g2, e2, gi, hc⟩
  have hS3 : W3.cell? ⟨p, 0, none⟩ = some (.map (some mp)) ∧ W3.cell? ⟨W.heap.size, 2, none⟩ = some (.int .i64 f2) ∧ W3.cell? ⟨p, 81, none⟩ = some (.slice (some ⟨g, o, none⟩) 1 1) ∧ W3.cell? ⟨g, o, none⟩ = some (.int .i64 x0) :=
    ⟨(ho3.cell (World.block_lt_of_cell? _ _ hS2.1) hpm).trans hS2.1, (ho3.cell (World.block_lt_of_cell? _ _ hS2.2.1) hqm).trans hS2.2.1, (ho3.cell (World.block_lt_of_cell? _ _ hS2.2.2.1) hpm).trans hS2.2.2.1, (ho3.cell (World.block_lt_of_cell? _ _ hS2.2.2.2) hgm).trans hS2.2.2.2⟩
  have hS4 : W4.cell? ⟨p, 0, none⟩ = some (.map (some mp)) ∧ W4.cell? ⟨W.heap.size, 2, none⟩ = some (.int .i64 f2) ∧ W4.cell? ⟨p, 81, none⟩ = some (.slice (some ⟨g, o, none⟩) 1 1) ∧ W4.cell? ⟨g, o, none⟩ = some (.int .i64 x0) :=
    ⟨(ho4.cell (World.block_lt_of_cell? _ _ hS3.1) hpm).trans hS3.1, (ho4.cell (World.block_lt_of_cell? _ _ hS3.2.1) hqm).trans hS3.2.1, (ho4.cell (World.block_lt_of_cell? _ _ hS3.2.2.1) hpm).trans hS3.2.2.1, (ho4.cell (World.block_lt_of_cell? _ _ hS3.2.2.2) hgm).trans hS3.2.2.2⟩
  have HF := Lib.hid (hM4.set_in (some ⟨g, o, none⟩) 0 [] ⟨rfl, by simp, fun h => absurd h (by simp)⟩ (by simp) (fun g' o' s' e hl => by injection e with e; injection e with e _ _; rw [← e]; exact hgB))
  have HSS := Lib.hid (And.intro hS2 (And.intro hS3 hS4))
  change (Instr.mapEntry _ _ _).run Try.prog W2.drew = _ at hrun
  clear hm4 ho3 ho4 hnext hM4 hrd hS2 hS3 hS4 gc
  go_wp2_with fail
  refine wp_region_Z (S := (fun W' => W'.cell? ⟨p, 0, none⟩ = some (.map (some mp)) ∧ W'.cell? ⟨W.heap.size, 2, none⟩ = some (.int .i64 f2) ∧ W'.cell? ⟨p, 81, none⟩ = some (.slice (some ⟨g, o, none⟩) 1 1) ∧ W'.cell? ⟨g, o, none⟩ = some (.int .i64 x0))) (z := 23) (by kernel_rfl) (by first | exact HSS.out.1 | exact HSS.out.2.1 | exact HSS.out.2.2) (fun hHeld => ?_)
  refine wpAnyZ_take (i := 0) (oi := { dst := some 75, op := Go.Op.move (Go.Operand.tmp 0), type := 127, pos := "run.go:70", after := #[], guard := none }) (v := ?_) rfl (by kernel_rfl) (by kernel_rfl) (by kernel_rfl) (by kernel_rfl) (fun _ _ _ h => h) (Or.inl ⟨by rfl, ?_⟩) (by assumption) ?_
  rotate_left 1
  · intro w hSw; (try dsimp only at hSw); go_simp; try with_reducible rfl
  try simp only [Act.put, List.setIfInBounds_toArray, List.set_cons_zero, List.set_cons_succ]
  refine wpAnyZ_take (i := 1) (oi := { dst := some 76, op := Go.Op.nilCheck (Go.Operand.tmp 75), type := 0, pos := "run.go:70", after := #[{ on := 0, ground := Go.Ground.data }], guard := none }) (v := ?_) rfl (by kernel_rfl) (by kernel_rfl) (by kernel_rfl) (by kernel_rfl) (fun _ _ _ h => h) (Or.inl ⟨by rfl, ?_⟩) (by assumption) ?_
  rotate_left 1
  · intro w hSw; (try dsimp only at hSw); go_simp; try with_reducible rfl
  try simp only [Act.put, List.setIfInBounds_toArray, List.set_cons_zero, List.set_cons_succ]
  refine wpAnyZ_take (i := 2) (oi := { dst := some 77, op := Go.Op.fieldAddr 132 (Go.Operand.tmp 76) 0, type := 0, pos := "run.go:70", after := #[{ on := 1, ground := Go.Ground.data }], guard := none }) (v := ?_) rfl (by kernel_rfl) (by kernel_rfl) (by kernel_rfl) (by kernel_rfl) (fun _ _ _ h => h) (Or.inl ⟨by rfl, ?_⟩) (by assumption) ?_
  rotate_left 1
  · intro w hSw; (try dsimp only at hSw); go_simp; try with_reducible rfl
  try simp only [Act.put, List.setIfInBounds_toArray, List.set_cons_zero, List.set_cons_succ]
  refine wpAnyZ_take (i := 3) (oi := { dst := some 78, op := Go.Op.load 128 (Go.Operand.tmp 77), type := 128, pos := "run.go:70", after := #[{ on := 2, ground := Go.Ground.data }], guard := none }) (v := ?_) rfl (by kernel_rfl) (by kernel_rfl) (by kernel_rfl) (by kernel_rfl) (fun _ _ _ h => h) (Or.inl ⟨by rfl, ?_⟩) (by assumption) ?_
  rotate_left 1
  · intro w hSw; (try dsimp only at hSw); go_simp; try with_reducible rfl
  try simp only [Act.put, List.setIfInBounds_toArray, List.set_cons_zero, List.set_cons_succ]
  refine wpAnyZ_take (i := 4) (oi := { dst := some 79, op := Go.Op.fieldAddr 38 (Go.Operand.tmp 3) 2, type := 0, pos := "run.go:70", after := #[], guard := none }) (v := ?_) rfl (by kernel_rfl) (by kernel_rfl) (by kernel_rfl) (by kernel_rfl) (fun _ _ _ h => h) (Or.inl ⟨by rfl, ?_⟩) (by assumption) ?_
  rotate_left 1
  · intro w hSw; (try dsimp only at hSw); go_simp; try with_reducible rfl
  try simp only [Act.put, List.setIfInBounds_toArray, List.set_cons_zero, List.set_cons_succ]
  refine wpAnyZ_take (i := 5) (oi := { dst := some 80, op := Go.Op.load 3 (Go.Operand.tmp 79), type := 3, pos := "run.go:70", after := #[{ on := 4, ground := Go.Ground.data }], guard := none }) (v := ?_) rfl (by kernel_rfl) (by kernel_rfl) (by kernel_rfl) (by kernel_rfl) (fun _ _ _ h => h) (Or.inl ⟨by rfl, ?_⟩) (by assumption) ?_
  rotate_left 1
  · intro w hSw; (try dsimp only at hSw); go_simp; try with_reducible rfl
  try simp only [Act.put, List.setIfInBounds_toArray, List.set_cons_zero, List.set_cons_succ]
  refine wpAnyZ_take (i := 6) (oi := { dst := some 81, op := Go.Op.move (Go.Operand.tmp 0), type := 127, pos := "run.go:70", after := #[{ on := 20, ground := Go.Ground.gcOnly Go.Departure.lateStores }], guard := none }) (v := ?_) rfl (by kernel_rfl) (by kernel_rfl) (by kernel_rfl) (by kernel_rfl) (fun _ _ _ h => h) (Or.inl ⟨by rfl, ?_⟩) (by assumption) ?_
  rotate_left 1
  · intro w hSw; (try dsimp only at hSw); go_simp; try with_reducible rfl
  try simp only [Act.put, List.setIfInBounds_toArray, List.set_cons_zero, List.set_cons_succ]
  refine wpAnyZ_take (i := 7) (oi := { dst := some 82, op := Go.Op.move (Go.Operand.tmp 0), type := 127, pos := "run.go:70", after := #[{ on := 18, ground := Go.Ground.gcOnly Go.Departure.tupleMapEntryFirst }], guard := none }) (v := ?_) rfl (by kernel_rfl) (by kernel_rfl) (by kernel_rfl) (by kernel_rfl) (fun _ _ _ h => h) (Or.inl ⟨by rfl, ?_⟩) (by assumption) ?_
  rotate_left 1
  · intro w hSw; (try dsimp only at hSw); go_simp; try with_reducible rfl
  try simp only [Act.put, List.setIfInBounds_toArray, List.set_cons_zero, List.set_cons_succ]
  refine wpAnyZ_take (i := 8) (oi := { dst := some 83, op := Go.Op.nilCheck (Go.Operand.tmp 82), type := 0, pos := "run.go:70", after := #[{ on := 7, ground := Go.Ground.data }, { on := 18, ground := Go.Ground.gcOnly Go.Departure.tupleMapEntryFirst }], guard := none }) (v := ?_) rfl (by kernel_rfl) (by kernel_rfl) (by kernel_rfl) (by kernel_rfl) (fun _ _ _ h => h) (Or.inl ⟨by rfl, ?_⟩) (by assumption) ?_
  rotate_left 1
  · intro w hSw; (try dsimp only at hSw); go_simp; try with_reducible rfl
  try simp only [Act.put, List.setIfInBounds_toArray, List.set_cons_zero, List.set_cons_succ]
  refine wpAnyZ_take (i := 9) (oi := { dst := some 84, op := Go.Op.fieldAddr 132 (Go.Operand.tmp 83) 3, type := 0, pos := "run.go:70", after := #[{ on := 8, ground := Go.Ground.data }, { on := 18, ground := Go.Ground.gcOnly Go.Departure.tupleMapEntryFirst }], guard := none }) (v := ?_) rfl (by kernel_rfl) (by kernel_rfl) (by kernel_rfl) (by kernel_rfl) (fun _ _ _ h => h) (Or.inl ⟨by rfl, ?_⟩) (by assumption) ?_
  rotate_left 1
  · intro w hSw; (try dsimp only at hSw); go_simp; try with_reducible rfl
  try simp only [Act.put, List.setIfInBounds_toArray, List.set_cons_zero, List.set_cons_succ]
  refine wpAnyZ_take (i := 10) (oi := { dst := some 85, op := Go.Op.load 54 (Go.Operand.tmp 84), type := 54, pos := "run.go:70", after := #[{ on := 9, ground := Go.Ground.data }, { on := 18, ground := Go.Ground.gcOnly Go.Departure.tupleMapEntryFirst }], guard := none }) (v := ?_) rfl (by kernel_rfl) (by kernel_rfl) (by kernel_rfl) (by kernel_rfl) (fun _ _ _ h => h) (Or.inl ⟨by rfl, ?_⟩) (by assumption) ?_
  rotate_left 1
  · intro w hSw; (try dsimp only at hSw); go_simp; try with_reducible rfl
  try simp only [Act.put, List.setIfInBounds_toArray, List.set_cons_zero, List.set_cons_succ]
  refine wpAnyZ_take (i := 11) (oi := { dst := some 86, op := Go.Op.indexAddr 54 (Go.Operand.tmp 85) (Go.Operand.const (Go.Value.int Go.IntKind.i64 0)), type := 0, pos := "run.go:70", after := #[{ on := 10, ground := Go.Ground.data }, { on := 18, ground := Go.Ground.gcOnly Go.Departure.tupleMapEntryFirst }], guard := none }) (v := ?_) rfl (by kernel_rfl) (by kernel_rfl) (by kernel_rfl) (by kernel_rfl) (fun _ _ _ h => h) (Or.inl ⟨by rfl, ?_⟩) (by assumption) ?_
  rotate_left 1
  · intro w hSw; (try dsimp only at hSw); go_simp; try with_reducible rfl
  try simp only [Act.put, List.setIfInBounds_toArray, List.set_cons_zero, List.set_cons_succ]
  refine wpAnyZ_take (i := 12) (oi := { dst := some 87, op := Go.Op.load 2 (Go.Operand.tmp 86), type := 2, pos := "run.go:70", after := #[{ on := 11, ground := Go.Ground.data }, { on := 18, ground := Go.Ground.gcOnly Go.Departure.tupleMapEntryFirst }], guard := none }) (v := ?_) rfl (by kernel_rfl) (by kernel_rfl) (by kernel_rfl) (by kernel_rfl) (fun _ _ _ h => h) (Or.inl ⟨by rfl, ?_⟩) (by assumption) ?_
  rotate_left 1
  · intro w hSw; (try dsimp only at hSw); go_simp; try with_reducible rfl
  try simp only [Act.put, List.setIfInBounds_toArray, List.set_cons_zero, List.set_cons_succ]
  refine wpAnyZ_take (i := 13) (oi := { dst := some 88, op := Go.Op.move (Go.Operand.tmp 0), type := 127, pos := "run.go:70", after := #[], guard := none }) (v := ?_) rfl (by kernel_rfl) (by kernel_rfl) (by kernel_rfl) (by kernel_rfl) (fun _ _ _ h => h) (Or.inl ⟨by rfl, ?_⟩) (by assumption) ?_
  rotate_left 1
  · intro w hSw; (try dsimp only at hSw); go_simp; try with_reducible rfl
  try simp only [Act.put, List.setIfInBounds_toArray, List.set_cons_zero, List.set_cons_succ]
  refine wpAnyZ_take (i := 14) (oi := { dst := some 89, op := Go.Op.nilCheck (Go.Operand.tmp 88), type := 0, pos := "run.go:70", after := #[{ on := 13, ground := Go.Ground.data }], guard := none }) (v := ?_) rfl (by kernel_rfl) (by kernel_rfl) (by kernel_rfl) (by kernel_rfl) (fun _ _ _ h => h) (Or.inl ⟨by rfl, ?_⟩) (by assumption) ?_
  rotate_left 1
  · intro w hSw; (try dsimp only at hSw); go_simp; try with_reducible rfl
  try simp only [Act.put, List.setIfInBounds_toArray, List.set_cons_zero, List.set_cons_succ]
  refine wpAnyZ_take (i := 15) (oi := { dst := some 90, op := Go.Op.fieldAddr 132 (Go.Operand.tmp 89) 3, type := 0, pos := "run.go:70", after := #[{ on := 14, ground := Go.Ground.data }], guard := none }) (v := ?_) rfl (by kernel_rfl) (by kernel_rfl) (by kernel_rfl) (by kernel_rfl) (fun _ _ _ h => h) (Or.inl ⟨by rfl, ?_⟩) (by assumption) ?_
  rotate_left 1
  · intro w hSw; (try dsimp only at hSw); go_simp; try with_reducible rfl
  try simp only [Act.put, List.setIfInBounds_toArray, List.set_cons_zero, List.set_cons_succ]
  refine wpAnyZ_take (i := 16) (oi := { dst := some 91, op := Go.Op.load 54 (Go.Operand.tmp 90), type := 54, pos := "run.go:70", after := #[{ on := 15, ground := Go.Ground.data }], guard := none }) (v := ?_) rfl (by kernel_rfl) (by kernel_rfl) (by kernel_rfl) (by kernel_rfl) (fun _ _ _ h => h) (Or.inl ⟨by rfl, ?_⟩) (by assumption) ?_
  rotate_left 1
  · intro w hSw; (try dsimp only at hSw); go_simp; try with_reducible rfl
  try simp only [Act.put, List.setIfInBounds_toArray, List.set_cons_zero, List.set_cons_succ]
  refine wpAnyZ_take (i := 17) (oi := { dst := some 92, op := Go.Op.slice 54 (Go.Operand.tmp 91) (some (Go.Operand.const (Go.Value.int Go.IntKind.i64 1))) none none, type := 54, pos := "run.go:70", after := #[{ on := 16, ground := Go.Ground.data }], guard := none }) (v := ?_) rfl (by kernel_rfl) (by kernel_rfl) (by kernel_rfl) (by kernel_rfl) (fun _ _ _ h => h) (Or.inl ⟨by rfl, ?_⟩) (by assumption) ?_
  rotate_left 1
  · intro w hSw; (try dsimp only at hSw); go_simp; try with_reducible rfl
  try simp only [Act.put, List.setIfInBounds_toArray, List.set_cons_zero, List.set_cons_succ]
  refine wpAnyZ_step (i := 18) (o := { dst := some 93, op := Go.Op.mapEntry 128 (Go.Operand.tmp 78) (Go.Operand.tmp 80), type := 0, pos := "run.go:70", after := #[{ on := 3, ground := Go.Ground.data }, { on := 5, ground := Go.Ground.data }, { on := 0, ground := Go.Ground.textOnly Go.Departure.tupleMapEntryFirst }, { on := 1, ground := Go.Ground.textOnly Go.Departure.tupleMapEntryFirst }, { on := 2, ground := Go.Ground.textOnly Go.Departure.tupleMapEntryFirst }, { on := 3, ground := Go.Ground.textOnly Go.Departure.tupleMapEntryFirst }, { on := 4, ground := Go.Ground.textOnly Go.Departure.tupleMapEntryFirst }, { on := 5, ground := Go.Ground.textOnly Go.Departure.tupleMapEntryFirst }, { on := 6, ground := Go.Ground.textOnly Go.Departure.lateStores }, { on := 7, ground := Go.Ground.textOnly Go.Departure.tupleMapEntryFirst }, { on := 8, ground := Go.Ground.textOnly Go.Departure.tupleMapEntryFirst }, { on := 9, ground := Go.Ground.textOnly Go.Departure.tupleMapEntryFirst }, { on := 10, ground := Go.Ground.textOnly Go.Departure.tupleMapEntryFirst }, { on := 11, ground := Go.Ground.textOnly Go.Departure.tupleMapEntryFirst }, { on := 12, ground := Go.Ground.textOnly Go.Departure.tupleMapEntryFirst }, { on := 13, ground := Go.Ground.textOnly Go.Departure.lateStores }, { on := 14, ground := Go.Ground.textOnly Go.Departure.lateStoresUnsure }, { on := 15, ground := Go.Ground.textOnly Go.Departure.lateStoresUnsure }, { on := 16, ground := Go.Ground.phase }, { on := 17, ground := Go.Ground.textOnly Go.Departure.lateStoresUnsure }], guard := none }) rfl (by kernel_rfl) (fun K hK => ?_)
  go_simp
  refine hK.out _ _ (fun _ => ?_) (fun hHeld1 => ?_)
  · (try dsimp only); first | exact HSS.out.1 | exact HSS.out.2.1 | exact HSS.out.2.2
  replace hHeld1 := hHeld1 (by decide)
  clear hK K hHeld
  try simp only [Act.put, List.setIfInBounds_toArray, List.set_cons_zero, List.set_cons_succ]
  refine wpAnyZ_take (i := 19) (oi := { dst := some 94, op := Go.Op.extract (Go.Operand.tmp 93) 1, type := 3, pos := "run.go:70", after := #[{ on := 18, ground := Go.Ground.data }], guard := none }) (v := ?_) rfl (by kernel_rfl) (by kernel_rfl) (by kernel_rfl) (by kernel_rfl) (fun _ _ _ h => h) (Or.inl ⟨by rfl, ?_⟩) (by assumption) ?_
  rotate_left 1
  · intro w hSw; (try dsimp only at hSw); go_simp; try with_reducible rfl
  try simp only [Act.put, List.setIfInBounds_toArray, List.set_cons_zero, List.set_cons_succ]
  refine wpAnyZ_step (i := 20) (o := { dst := none, op := Go.Op.entryStore 128 (Go.Operand.tmp 78) (Go.Operand.tmp 94) (Go.Operand.tmp 87), type := 0, pos := "run.go:70", after := #[{ on := 3, ground := Go.Ground.data }, { on := 19, ground := Go.Ground.data }, { on := 12, ground := Go.Ground.data }, { on := 18, ground := Go.Ground.chain }, { on := 0, ground := Go.Ground.phase }, { on := 1, ground := Go.Ground.phase }, { on := 2, ground := Go.Ground.phase }, { on := 3, ground := Go.Ground.phase }, { on := 4, ground := Go.Ground.phase }, { on := 5, ground := Go.Ground.phase }, { on := 6, ground := Go.Ground.textOnly Go.Departure.lateStores }, { on := 7, ground := Go.Ground.phase }, { on := 8, ground := Go.Ground.phase }, { on := 9, ground := Go.Ground.phase }, { on := 10, ground := Go.Ground.phase }, { on := 11, ground := Go.Ground.phase }, { on := 12, ground := Go.Ground.phase }, { on := 13, ground := Go.Ground.textOnly Go.Departure.lateStores }, { on := 14, ground := Go.Ground.textOnly Go.Departure.lateStoresUnsure }, { on := 15, ground := Go.Ground.textOnly Go.Departure.lateStoresUnsure }, { on := 16, ground := Go.Ground.phase }, { on := 17, ground := Go.Ground.textOnly Go.Departure.lateStoresUnsure }, { on := 18, ground := Go.Ground.phase }], guard := none }) rfl (by kernel_rfl) (fun K hK => ?_)
  go_simp
  refine hK.out _ _ (fun _ => ?_) (fun hHeld2 => ?_)
  · (try dsimp only); first | exact HSS.out.1 | exact HSS.out.2.1 | exact HSS.out.2.2
  replace hHeld2 := hHeld2 (by decide)
  clear hK K hHeld1
  try simp only [Act.put, List.setIfInBounds_toArray, List.set_cons_zero, List.set_cons_succ]
  refine wpAnyZ_step (i := 21) (o := { dst := some 95, op := Go.Op.nilCheck (Go.Operand.tmp 81), type := 0, pos := "run.go:70", after := #[{ on := 6, ground := Go.Ground.data }, { on := 0, ground := Go.Ground.phase }, { on := 1, ground := Go.Ground.phase }, { on := 2, ground := Go.Ground.phase }, { on := 3, ground := Go.Ground.phase }, { on := 4, ground := Go.Ground.phase }, { on := 5, ground := Go.Ground.phase }, { on := 6, ground := Go.Ground.phase }, { on := 7, ground := Go.Ground.phase }, { on := 8, ground := Go.Ground.phase }, { on := 9, ground := Go.Ground.phase }, { on := 10, ground := Go.Ground.phase }, { on := 11, ground := Go.Ground.phase }, { on := 12, ground := Go.Ground.phase }, { on := 13, ground := Go.Ground.phase }, { on := 14, ground := Go.Ground.phase }, { on := 15, ground := Go.Ground.phase }, { on := 16, ground := Go.Ground.phase }, { on := 17, ground := Go.Ground.phase }, { on := 18, ground := Go.Ground.phase }, { on := 19, ground := Go.Ground.phase }, { on := 20, ground := Go.Ground.phase }], guard := none }) rfl (by kernel_rfl) (fun K hK => ?_)
  go_simp
  refine hK.out _ _ (fun _ => ?_) (fun hHeld3 => ?_)
  · (try dsimp only); first | exact HSS.out.1 | exact HSS.out.2.1 | exact HSS.out.2.2
  replace hHeld3 := hHeld3 (by decide)
  clear hK K hHeld2
  try simp only [Act.put, List.setIfInBounds_toArray, List.set_cons_zero, List.set_cons_succ]
  refine wpAnyZ_take (i := 22) (oi := { dst := some 96, op := Go.Op.fieldAddr 132 (Go.Operand.tmp 95) 3, type := 0, pos := "run.go:70", after := #[{ on := 21, ground := Go.Ground.data }, { on := 0, ground := Go.Ground.phase }, { on := 1, ground := Go.Ground.phase }, { on := 2, ground := Go.Ground.phase }, { on := 3, ground := Go.Ground.phase }, { on := 4, ground := Go.Ground.phase }, { on := 5, ground := Go.Ground.phase }, { on := 6, ground := Go.Ground.phase }, { on := 7, ground := Go.Ground.phase }, { on := 8, ground := Go.Ground.phase }, { on := 9, ground := Go.Ground.phase }, { on := 10, ground := Go.Ground.phase }, { on := 11, ground := Go.Ground.phase }, { on := 12, ground := Go.Ground.phase }, { on := 13, ground := Go.Ground.phase }, { on := 14, ground := Go.Ground.phase }, { on := 15, ground := Go.Ground.phase }, { on := 16, ground := Go.Ground.phase }, { on := 17, ground := Go.Ground.phase }, { on := 18, ground := Go.Ground.phase }, { on := 19, ground := Go.Ground.phase }, { on := 20, ground := Go.Ground.phase }], guard := none }) (v := ?_) rfl (by kernel_rfl) (by kernel_rfl) (by kernel_rfl) (by kernel_rfl) (fun _ _ _ h => h) (Or.inl ⟨by rfl, ?_⟩) (by assumption) ?_
  rotate_left 1
  · intro w hSw; (try dsimp only at hSw); go_simp; try with_reducible rfl
  try simp only [Act.put, List.setIfInBounds_toArray, List.set_cons_zero, List.set_cons_succ]
  refine wpAnyZ_step (i := 23) (o := { dst := none, op := Go.Op.store 54 (Go.Operand.tmp 96) (Go.Operand.tmp 92), type := 0, pos := "run.go:70", after := #[{ on := 22, ground := Go.Ground.data }, { on := 17, ground := Go.Ground.data }, { on := 20, ground := Go.Ground.chain }, { on := 0, ground := Go.Ground.phase }, { on := 1, ground := Go.Ground.phase }, { on := 2, ground := Go.Ground.phase }, { on := 3, ground := Go.Ground.phase }, { on := 4, ground := Go.Ground.phase }, { on := 5, ground := Go.Ground.phase }, { on := 6, ground := Go.Ground.phase }, { on := 7, ground := Go.Ground.phase }, { on := 8, ground := Go.Ground.phase }, { on := 9, ground := Go.Ground.phase }, { on := 10, ground := Go.Ground.phase }, { on := 11, ground := Go.Ground.phase }, { on := 12, ground := Go.Ground.phase }, { on := 13, ground := Go.Ground.phase }, { on := 14, ground := Go.Ground.phase }, { on := 15, ground := Go.Ground.phase }, { on := 16, ground := Go.Ground.phase }, { on := 17, ground := Go.Ground.phase }, { on := 18, ground := Go.Ground.phase }, { on := 19, ground := Go.Ground.phase }, { on := 20, ground := Go.Ground.phase }], guard := none }) rfl (by kernel_rfl) (fun K hK => ?_)
  go_simp
  refine hK.out _ _ (fun h => absurd rfl h) (fun _ => ?_)
  clear hK K
  try simp only [Act.put, List.setIfInBounds_toArray, List.set_cons_zero, List.set_cons_succ]
  refine wpAnyZ_done (by kernel_rfl) ?_ _
  go_wp2
  go_ret
  exact StepPost.yes (by simp [stepM, HK.out, Mc.set]) HF.out
set_option maxRecDepth 100000 in
theorem step_4 (h : Mach B S w0 W p mp m e v al A c tv) (f1 f2 f3 f4 f5 f6 : Int) (ht : m.trace.length ≤ 1048576) :
    Calls Try.prog 75 #[.pointer (some ⟨p, 0, none⟩), iv ⟨4, f1, f2, f3, f4, f5, f6⟩] W fun ε W' => StepPost B S w0 p mp m e v ⟨4, f1, f2, f3, f4, f5, f6⟩ ε W' := by
  unfold iv
  have h1 := h.new (.cells #[.int .u8 4, .int .u8 f1, .int .i64 f2, .int .i64 f3, .int .i64 f4, .int .i64 f5, .int .i64 f6] 38)
  have hb := BoxI.new W ⟨4, f1, f2, f3, f4, f5, f6⟩ 38
  obtain ⟨W1, hW1⟩ : ∃ W1, W.alloc (.cells #[.int .u8 4, .int .u8 f1, .int .i64 f2, .int .i64 f3, .int .i64 f4, .int .i64 f5, .int .i64 f6] 38) = W1 := ⟨_, rfl⟩
  simp only [hW1] at h1 hb
  obtain ⟨c0, c1, c2, c3, c4, c5, c6⟩ := hb
  have g0 := h1.c_r
  have l1 : ∀ n, (Instr.lookup 128 (.map (some mp)) (.int .i64 f3) false).run Try.prog (W1.drewN n) = .ok (.int .i64 (m.r f3)) (W1.drewN n) := fun n => (h1.drew n).look f3
  have l2 : ∀ n, (Instr.lookup 128 (.map (some mp)) (.int .i64 f4) false).run Try.prog (W1.drewN n) = .ok (.int .i64 (m.r f4)) (W1.drewN n) := fun n => (h1.drew n).look f4
  have HW := Lib.hid hW1
  have HH := Lib.hid h1
  clear hW1 h1
  have h0 := h
  clear h
  clear h0
  go_enter Try.func75, Try.ntmps75
  go_wp2
  rw [HW.out]
  go_quiet (fail)
  obtain ⟨W2, hW2⟩ : ∃ W2, W1.drewN nq = W2 := ⟨_, rfl⟩
  have hM2 : Mach B S w0 W2 p mp m e v al A c tv := hW2 ▸ HH.out.drew nq
  have d0 : ∀ a, W2.cell? a = W1.cell? a := fun a => by rw [← hW2]; rfl
  rw [hW2]
  have e0 := (d0 _).trans c0
  have e1 := (d0 _).trans c1
  have e2 := (d0 _).trans c2
  have e3 := (d0 _).trans c3
  have e4 := (d0 _).trans c4
  have e5 := (d0 _).trans c5
  have e6 := (d0 _).trans c6
  have g2 := hM2.c_r
  have HM := Lib.hid hM2
  clear hM2 d0 hW2 c0 c1 c2 c3 c4 c5 c6 g0 l1 l2
  have gt := HM.out.c_t
  have hown := HM.out.tr
  obtain ⟨i0, hi0, hz0, hz1, hz2⟩ := info_parts info64
  have hB2 : B ≤ W2.heap.size := by have := HM.out.only.size; have := HM.out.hB; omega
  have hnews := cell_one_new W2 (.int .i64 (m.r f3)) 2
  have hown2 := hown.alloc (.cells #[.int .i64 (m.r f3)] 2)
  have HO := Lib.hid (And.intro hown2 (And.intro hnews hB2))
  have HOUT := Lib.hid (out_after HM.out (x := m.r f3))
  clear hown hown2 hnews hB2
  go_wp2_with (first
    | (at_builtin; refine wpList_append_own_at _ rfl (.tmp 104) (.tmp 106) 54 rfl B 2 i0 _ 1 8 Try.underlying54 hi0 hz0 hz1 hz2 rfl (by decide) tv m.trace.length (m.trace.map (Value.int .i64)) rfl HO.out.1 ⟨W2.heap.size, 0, none⟩ 1 1 [.int .i64 (m.r f3)] rfl rfl HO.out.2.1 (by simp [Value.oneCell']) (by unfold maxLen; omega) (by omega) (by have := HO.out.2.2; simp; omega) ?_; intro v' w1 k1 k2 k3 k4; obtain ⟨g', cap', rfl⟩ := own_some k1; obtain ⟨s1, s2, s3⟩ := HOUT.out _ w1 k1 k2 (by simpa using k4); have HF := Lib.hid s3; clear s3 k1 k2 k3 k4)
    | fail)
  go_ret
  exact StepPost.yes (by simp [stepM]) HF.out
end
end Go.Proofs.Ytffnkbicbfjnpaa
