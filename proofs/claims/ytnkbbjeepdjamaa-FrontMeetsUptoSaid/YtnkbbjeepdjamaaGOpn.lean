/- An argument that is a small graph, opened: a number, rows of two numbers. No condition. -/
import Derived.Test.YtnkbbjeepdjamaaM3
import Derived.Deep.Slices
import Derived.ChangeArms
import Derived.ChangeSame
import Derived.WideShapes
import Derived.OpenShut
namespace Go.Proofs.Ytnkbbjeepdjamaa
open Go.ChangeShapes Go.WideShapes Go.Deep Go.RowKit
section
variable {H : Type} {enc : TypeId × Value → H} {w : World} {base : Nat} {spare : Nat → Bool} {held : Bool}
theorem nat_of_u8 {n : Int} (h : (Lit.int .u8 n).wf = true) : ∃ m : Nat, n = (m : Int) ∧ m ≤ 255 := by
  simp only [Lit.wf, Bool.and_eq_true, decide_eq_true_eq] at h
  have h1 : 0 ≤ n ∧ n ≤ 255 := h
  exact ⟨n.toNat, by omega, by omega⟩
set_option maxRecDepth 100000 in
theorem open_pair {fuel : Nat} {cs : List Value} {x : DataW H × List MemPlace} (h : DataW.trod enc Try.prog w base spare held fuel 43 cs = some x) : ∃ a b : Nat, a ≤ 255 ∧ b ≤ 255 ∧ cs = [.int .u8 (a : Int), .int .u8 (b : Int)] := by
  obtain ⟨xs, m, _, _, hl, hn, hx⟩ := DataW.trod_array (n := 2) (e := 5) Try.underlying43 h
  have hc2 : Try.prog.cellsOf 43 = 2 := by kernel_rfl
  have hc1 : Try.prog.cellsOf 5 = 1 := by kernel_rfl
  rw [hc2] at hl
  match cs, hl with
  | [c0, c1], _ =>
    have h0 := hx 0 (by omega)
    have h1 := hx 1 (by omega)
    rw [hc1] at h0 h1
    rw [List.getElem?_eq_getElem (by omega)] at h0 h1
    obtain ⟨i, e0, _, w0⟩ := DataW.trod_int Try.underlying5 h0
    obtain ⟨j, e1, _, w1⟩ := DataW.trod_int Try.underlying5 h1
    obtain ⟨a, rfl, ha⟩ := nat_of_u8 w0
    obtain ⟨b, rfl, hb⟩ := nat_of_u8 w1
    simp at e0 e1
    exact ⟨a, b, ha, hb, by rw [e0, e1]⟩
theorem rows_choose7 {α : Type} {R : Nat → α → Prop} : ∀ n, (∀ i, i < n → ∃ a, R i a) → ∃ l : List α, l.length = n ∧ ∀ i a, l[i]? = some a → R i a
  | 0, _ => ⟨[], rfl, fun i a h => by simp at h⟩
  | n + 1, h => by
    obtain ⟨l, hl, hr⟩ := rows_choose7 n (fun i hi => h i (by omega))
    obtain ⟨a, ha⟩ := h n (by omega)
    refine ⟨l ++ [a], by simp [hl], fun i b hb => ?_⟩
    by_cases hi : i < l.length
    · rw [List.getElem?_append_left hi] at hb; exact hr i b hb
    · rw [List.getElem?_append_right (by omega)] at hb
      obtain ⟨hlt, rfl⟩ := List.getElem?_eq_some_iff.1 hb
      simp at hlt
      have : i = n := by omega
      subst this
      simpa using ha
theorem spot_none {a : Addr} {u : Value} (h : w.cell? a = some u) : a.spot = none := by
  unfold World.cell? at h
  split at h
  · split at h
    · cases h
    · rename_i hs
      cases hh : a.spot with
      | none => rfl
      | some x => rw [hh] at hs; simp at hs
  · cases h
set_option maxRecDepth 100000 in
/-- A small graph. -/
theorem open_small7 {r : Reach} {b0 : Nat} {v : Value} {d : DataW H} {ps : List MemPlace} (hval : Value.okWide Try.prog w r b0 24 v) (hd : DataW.Trod enc Try.prog w base spare held 24 v d ps) :
    ∃ (N : Nat) (A : Option Addr) (c : Nat) (es : List (Nat × Nat)), v = .agg #[.int .u8 N, .slice A es.length c] ∧ N ≤ 255 ∧ es.length ≤ c ∧ Edges w A es := by
  simp only [Value.okWide, Try.underlying24] at hval
  obtain ⟨cs, rfl, _, _⟩ := hval
  obtain ⟨fuel, hf⟩ := hd
  obtain ⟨y0, y1, n, _, hl, h0, h1⟩ := trod_struct2 Try.underlying24 hf
  have hcs : Try.prog.cellsOf 24 = 2 := by kernel_rfl
  have hc1 : Try.prog.cellsOf 5 = 1 := by kernel_rfl
  have hc2 : Try.prog.cellsOf 22 = 1 := by kernel_rfl
  have hc3 : Try.prog.cellsOf 43 = 2 := by kernel_rfl
  rw [hcs] at hl
  obtain ⟨l⟩ := cs
  match l, hl with
  | [c0, c1], _ =>
    simp only [Value.cells, hc1, hc2, List.drop_zero, List.take_succ_cons, List.take_zero, List.drop_succ_cons] at h0 h1
    obtain ⟨i, e0, _, w0⟩ := DataW.trod_int Try.underlying5 h0
    obtain ⟨N, rfl, hN⟩ := nat_of_u8 w0
    simp only [List.cons.injEq, and_true] at e0
    subst e0
    rcases open_slice Try.underlying22 h1 with ⟨e1, _⟩ | ⟨a, len, cap, m, n', D, Pl, e1, hb, hlc, hm, hmm, _, hx⟩
    · simp only [List.cons.injEq, and_true] at e1
      subst e1
      exact ⟨N, none, 0, [], rfl, hN, Nat.le_refl _, fun i x y h => by simp at h⟩
    · simp only [List.cons.injEq, and_true] at e1
      subst e1
      have hlm : len ≤ m := by rw [hmm]; split <;> omega
      obtain ⟨es, hes, hr⟩ := rows_choose7 (R := fun i (p : Nat × Nat) => p.1 ≤ 255 ∧ p.2 ≤ 255 ∧ w.cell? (a.add (i * 2)) = some (.int .u8 p.1) ∧ w.cell? ((a.add (i * 2)).add 1) = some (.int .u8 p.2)) len (fun i hi => by
        obtain ⟨c, k1, k2⟩ := hx i (by omega)
        obtain ⟨x, y, hx1, hy1, rfl⟩ := open_pair k2
        obtain ⟨_, _, hcc⟩ := World.cells?_some k1
        rw [hc3] at hcc
        have g0 := hcc 0 (by omega)
        have g1 := hcc 1 (by omega)
        refine ⟨(x, y), hx1, hy1, ?_, g1⟩
        rw [show (a.add (i * 2)).add 0 = a.add (i * 2) by simp [Addr.add]] at g0; exact g0)
      refine ⟨N, some a, cap, es, by rw [hes], hN, by omega, fun i x y hi => ?_⟩
      obtain ⟨k1, k2, k3, k4⟩ := hr i (x, y) hi
      have h0lt : 0 < es.length := by have := (List.getElem?_eq_some_iff.1 hi).1; omega
      obtain ⟨_, _, z3, _⟩ := hr 0 (es[0]) (List.getElem?_eq_getElem h0lt)
      have hs := spot_none z3
      rw [show a.add (0 * 2) = a by simp [Addr.add]] at hs
      obtain ⟨g, o, s⟩ := a
      have hs : s = none := hs
      subst hs
      rw [Addr.add_lit] at k3 k4
      rw [Addr.add_lit] at k4
      exact ⟨k1, k2, g, o, rfl, k3, k4⟩
end
end Go.Proofs.Ytnkbbjeepdjamaa
