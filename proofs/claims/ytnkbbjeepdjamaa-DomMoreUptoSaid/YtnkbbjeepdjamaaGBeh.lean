/- graph.Behind, Ahead, New. Conditions: few places. -/
import Derived.Test.YtnkbbjeepdjamaaGCall
namespace Go.Proofs.Ytnkbbjeepdjamaa
open Go.RowKit
theorem boxed {w w1 : World} {q : Nat} {o : Obj} (h : w.alloc o = w1) (hq : w.heap.size = q) : w1.heap[q]? = some o ∧ Below w.heap.size w w1 ∧ w1.heap.size = q + 1 := by
  subst h; subst hq
  exact ⟨Array.getElem?_push_size, (Below.refl _ _).alloc (Nat.le_refl _) _, by simp⟩
theorem below_two {a b c : World} (h : Below a.heap.size a b) (k : Below b.heap.size b c) : Below a.heap.size a c := h.trans (k.mono h.size)
theorem behind_in {w : World} {base : Nat} {gv : Value} {b a : List (List Nat)} {S : Nat → Prop} (h : Gr w base gv b a S) (i : Nat) (l : List Nat) (hl : b[i]? = some l) (hn : l.length ≤ 1048576) :
    Calls Try.prog 74 #[gv, .int .i64 i] w fun e w' => ∃ v', e = .returned v' ∧ w'.ownsRow w.heap.size 3 1 v' l.length (l.map iv) ∧ Below w.heap.size w w' := by
  obtain ⟨q, p, vs, us, rfl, h1, h2, h3, h4, h5⟩ := h.ex
  have hi : i < b.length := by have := (List.getElem?_eq_some_iff.1 hl).1; omega
  obtain ⟨v, l', hv, hl', hr⟩ := h1.get (i := i) (by omega)
  obtain rfl : l = l' := Option.some.inj (hl.symm.trans hl')
  have H := Lib.hid (And.intro h1 (And.intro hv (And.intro hr hn)))
  clear h1 h2 h3 h4 h5 h hl hl' hv hr hn
  generalize b.length = n at *
  have i0 : 0 ≤ (i : Int) := by omega
  have i1 : (i : Int) < (n : Int) := by omega
  go_enter Try.func74, Try.ntmps74
  go_wp2_with fail
  refine (len_calls q n p n n n _).mono ?_
  rintro e w2 ⟨rfl, hb⟩
  generalize hX : World.alloc w _ = X at *
  obtain ⟨hx, hbx, hz⟩ := boxed hX rfl
  have hm2 := (H.out.1.later hbx).later hb
  have hc := hm2.cell i
  rw [H.out.2.1] at hc
  have x0 := (cell_of_blk _ _ _ _ _ ((hb.block _ (by omega)).trans hx) 0)
  have HR := Lib.hid (And.intro (((H.out.2.2.1).only (Only.of_below hbx) (fun g hg e => by have := (H.out.2.2.1.lt hg).1; omega))) (And.intro hbx hb))
  simp at x0
  have c1 := HR.out.1
  clear hX hx hz hbx hb c1
  go_wp2_with fail
  have r2 : RowAt w2 base 3 v (l.map iv) := HR.out.1.only (Only.of_below HR.out.2.2) (fun g hg e => by have := (HR.out.1.lt hg).1; omega)
  refine (cloneG r2 H.out.2.2.2).mono ?_
  rintro e w3 ⟨v', rfl, ho, hb3⟩
  have hbel := below_two (below_two HR.out.2.1 HR.out.2.2) hb3
  have HO := Lib.hid (own_base ho (below_two HR.out.2.1 HR.out.2.2).size)
  clear ho hb3 x0 hc hm2
  go_wp2_with fail
  go_ret
  exact ⟨v', rfl, HO.out, hbel⟩
theorem behind_out {w : World} {base : Nat} {gv : Value} {b a : List (List Nat)} {S : Nat → Prop} (h : Gr w base gv b a S) (i : Int) (hi : i < 0 ∨ (b.length : Int) ≤ i) :
    Calls Try.prog 74 #[gv, .int .i64 i] w fun e w' => e = .returned (.slice none 0 0) ∧ Below w.heap.size w w' := by
  obtain ⟨q, p, vs, us, rfl, _⟩ := h.ex
  clear h
  generalize b.length = n at *
  by_cases h0 : i < 0
  · clear hi
    go_enter Try.func74, Try.ntmps74
    go_wp2_with fail
    go_ret
    exact ⟨rfl, (Below.refl _ _).alloc (Nat.le_refl _) _⟩
  · have h1 : (n : Int) ≤ i := by omega
    have h0' : 0 ≤ i := by omega
    clear hi h0
    go_enter Try.func74, Try.ntmps74
    go_wp2_with fail
    refine (len_calls q n p n n n _).mono ?_
    rintro e w2 ⟨rfl, hb⟩
    have hbel := below_two ((Below.refl _ _).alloc (Nat.le_refl _) _) hb
    clear hb
    go_wp2_with fail
    go_ret
    exact ⟨rfl, hbel⟩
theorem ahead_in {w : World} {base : Nat} {gv : Value} {b a : List (List Nat)} {S : Nat → Prop} (h : Gr w base gv b a S) (i : Nat) (l : List Nat) (hl : a[i]? = some l) (hn : l.length ≤ 1048576) :
    Calls Try.prog 52 #[gv, .int .i64 i] w fun e w' => ∃ v', e = .returned v' ∧ w'.ownsRow w.heap.size 3 1 v' l.length (l.map iv) ∧ Below w.heap.size w w' := by
  obtain ⟨q, p, vs, us, rfl, h1, h2, h3, h4, h5⟩ := h.ex
  have hi : i < b.length := by have := (List.getElem?_eq_some_iff.1 hl).1; omega
  obtain ⟨v, l', hv, hl', hr⟩ := h2.get (i := i) (by omega)
  obtain rfl : l = l' := Option.some.inj (hl.symm.trans hl')
  have H := Lib.hid (And.intro h2 (And.intro hv (And.intro hr hn)))
  clear h1 h2 h3 h4 h5 h hl hl' hv hr hn
  generalize b.length = n at *
  have i0 : 0 ≤ (i : Int) := by omega
  have i1 : (i : Int) < (n : Int) := by omega
  go_enter Try.func52, Try.ntmps52
  go_wp2_with fail
  refine (len_calls q n p n n n _).mono ?_
  rintro e w2 ⟨rfl, hb⟩
  generalize hX : World.alloc w _ = X at *
  obtain ⟨hx, hbx, hz⟩ := boxed hX rfl
  have hm2 := (H.out.1.later hbx).later hb
  have hc := hm2.cell i
  rw [H.out.2.1] at hc
  have x0 := (cell_of_blk _ _ _ _ _ ((hb.block _ (by omega)).trans hx) 1)
  have HR := Lib.hid (And.intro (((H.out.2.2.1).only (Only.of_below hbx) (fun g hg e => by have := (H.out.2.2.1.lt hg).1; omega))) (And.intro hbx hb))
  simp at x0
  have c1 := HR.out.1
  clear hX hx hz hbx hb c1
  go_wp2_with fail
  have r2 : RowAt w2 base 3 v (l.map iv) := HR.out.1.only (Only.of_below HR.out.2.2) (fun g hg e => by have := (HR.out.1.lt hg).1; omega)
  refine (cloneG r2 H.out.2.2.2).mono ?_
  rintro e w3 ⟨v', rfl, ho, hb3⟩
  have hbel := below_two (below_two HR.out.2.1 HR.out.2.2) hb3
  have HO := Lib.hid (own_base ho (below_two HR.out.2.1 HR.out.2.2).size)
  clear ho hb3 x0 hc hm2
  go_wp2_with fail
  go_ret
  exact ⟨v', rfl, HO.out, hbel⟩
theorem ahead_out {w : World} {base : Nat} {gv : Value} {b a : List (List Nat)} {S : Nat → Prop} (h : Gr w base gv b a S) (i : Int) (hi : i < 0 ∨ (b.length : Int) ≤ i) :
    Calls Try.prog 52 #[gv, .int .i64 i] w fun e w' => e = .returned (.slice none 0 0) ∧ Below w.heap.size w w' := by
  obtain ⟨q, p, vs, us, rfl, _⟩ := h.ex
  clear h
  generalize b.length = n at *
  by_cases h0 : i < 0
  · clear hi
    go_enter Try.func52, Try.ntmps52
    go_wp2_with fail
    go_ret
    exact ⟨rfl, (Below.refl _ _).alloc (Nat.le_refl _) _⟩
  · have h1 : (n : Int) ≤ i := by omega
    have h0' : 0 ≤ i := by omega
    clear hi h0
    go_enter Try.func52, Try.ntmps52
    go_wp2_with fail
    refine (len_calls q n p n n n _).mono ?_
    rintro e w2 ⟨rfl, hb⟩
    have hbel := below_two ((Below.refl _ _).alloc (Nat.le_refl _) _) hb
    clear hb
    go_wp2_with fail
    go_ret
    exact ⟨rfl, hbel⟩

end Go.Proofs.Ytnkbbjeepdjamaa
