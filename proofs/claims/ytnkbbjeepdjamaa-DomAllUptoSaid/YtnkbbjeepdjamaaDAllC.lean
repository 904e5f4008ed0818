/- refinerylaw08.DomAll's own walk: a tree's places, each ahead of those below it, put behind a boxed row. Conditions: few places. -/
import Derived.Test.YtnkbbjeepdjamaaDAllP
import Derived.LoopTactic
namespace Go.Proofs.Ytnkbbjeepdjamaa
open Go.RowKit
/-- The closure. -/
def dclo (b8 b7 b9 : Nat) : Value := .func (.func 29) #[] #[.pointer (some ⟨b8, 0, none⟩), .pointer (some ⟨b7, 0, none⟩), .pointer (some ⟨b9, 0, none⟩)]
/-- What the walk goes by: the tree, its box, the closure's box, the row's box. -/
structure DW (W : World) (tb base n qu qb qd : Nat) (ts : List Value) (up deep : List Int) (b7 b8 b9 : Nat) (ws : List Nat) (S : Nat → Prop) : Prop where
  tr : TR W tb n qu qb qd ts up deep (belows up n n)
  low : qu < base ∧ qd < base ∧ (∀ g, MatB qb ts g → g < base) ∧ b7 < base
  t7 : W.heap[b7]? = some (.cells #[.slice (some ⟨qu, 0, none⟩) n n, .slice (some ⟨qb, 0, none⟩) n n, .slice (some ⟨qd, 0, none⟩) n n] 33 (0, 0))
  f9 : W.heap[b9]? = some (.cells #[dclo b8 b7 b9] 49 (0, 0))
  n9 : ¬ S b9
  row : BoxRow W base b8 ws S
section
variable {W W' : World} {tb base n qu qb qd : Nat} {ts : List Value} {up deep : List Int} {b7 b8 b9 : Nat} {ws ws' : List Nat} {S S' : Nat → Prop}
theorem DW.step (h : DW W tb base n qu qb qd ts up deep b7 b8 b9 ws S) (hr : BoxRow W' base b8 ws' S') (ho : Only S W W') (hn : ∀ g, S' g → S g ∨ W.heap.size ≤ g) : DW W' tb base n qu qb qd ts up deep b7 b8 b9 ws' S' := by
  have ge : ∀ g, S g → base ≤ g := fun g hg => (h.row.lt hg).2
  obtain ⟨l1, l2, l3, l4⟩ := h.low
  refine ⟨h.tr.only ho (fun e => by have := ge _ e; omega) (fun e => by have := ge _ e; omega) (fun g hg e => by have := ge _ e; have := l3 g hg; omega), h.low, (ho.block _ (lt_blk h.t7) (fun e => by have := ge _ e; omega)).trans h.t7, (ho.block _ (lt_blk h.f9) h.n9).trans h.f9, fun e => ?_, hr⟩
  rcases hn _ e with e | e
  · exact h.n9 e
  · have := lt_blk h.f9; omega
theorem DW.later (h : DW W tb base n qu qb qd ts up deep b7 b8 b9 ws S) (hb : Below W.heap.size W W') : DW W' tb base n qu qb qd ts up deep b7 b8 b9 ws S :=
  ⟨h.tr.later hb, h.low, (hb.block _ (lt_blk h.t7)).trans h.t7, (hb.block _ (lt_blk h.f9)).trans h.f9, h.n9, h.row.only (Only.of_below hb) (fun g hg e => by have := (h.row.lt hg).1; omega)⟩
end
set_option maxRecDepth 100000 in
set_option maxHeartbeats 8000000 in
theorem dclo_ok {g : Nat → List Nat} {tb base n qu qb qd : Nat} {ts : List Value} {up deep : List Int} {b7 b8 b9 : Nat} (hdt : LT.DTree g n up deep) (hn : n ≤ 1000) : ∀ (f v d : Nat) (ws : List Nat) (S : Nat → Prop) (W : World), DW W tb base n qu qb qd ts up deep b7 b8 b9 ws S → Way g 0 v → deep[v]? = some (d : Int) → n ≤ d + f → ws.length + (preT up n f v).length ≤ 1000 →
    Calls Try.prog 29 #[.int .i64 (v : Int), .pointer (some ⟨b8, 0, none⟩), .pointer (some ⟨b7, 0, none⟩), .pointer (some ⟨b9, 0, none⟩)] W fun e w' => e = .returned (.tuple #[]) ∧ ∃ S', DW w' tb base n qu qb qd ts up deep b7 b8 b9 (ws ++ preT up n f v) S' ∧ Only S W w' ∧ ∀ g, S' g → S g ∨ W.heap.size ≤ g
  | 0, v, d, ws, S, W, hw, hv, hd, hnf, hlen => by have := hdt.deep_lt hv hd; omega
  | f + 1, v, d, ws, S, W, hw, hv, hd, hnf, hlen => by
    have IH := Lib.hid (dclo_ok (tb := tb) (base := base) (qu := qu) (qb := qb) (qd := qd) (ts := ts) (b7 := b7) (b8 := b8) (b9 := b9) hdt hn f)
    have hvn := hdt.lt v hv
    obtain ⟨v6, j1, j2, j3, j4⟩ := hw.row.ex
    obtain ⟨A6, m6, c6, rfl⟩ : ∃ A m c, v6 = .slice A m c := (rowAt_slice j2).elim fun A h => h.elim fun c h => ⟨A, _, c, h.1⟩
    have hbw : base ≤ W.heap.size := by have := lt_blk j1; omega
    have hl1 : ws.length + 1 ≤ 1000 := by have := preT_pos up n (f + 1) v; omega
    obtain ⟨v', w1, hr1, r1, r2, r3⟩ := row_append (w := W.alloc (.cells #[.int .i64 (v : Int)] 3)) (base := base) (v := .slice A6 m6 c6) (l := ws) (j2.only (Only.alloc (fun _ => False) _ _) (fun _ _ e => e)) ⟨W.heap.size, 0, none⟩ v (by
      have := cell_of_blk (W.alloc (.cells #[.int .i64 (v : Int)] 3)) W.heap.size _ _ _ (heap_alloc_new' W _) 0
      exact this) (by simp; omega) (by omega)
    obtain ⟨A1, m1, c1, rfl⟩ : ∃ A m c, v' = .slice A m c := (rowAt_slice r1).elim fun A h => h.elim fun c h => ⟨A, _, c, h.1⟩
    have ho1 : Only (fun g => (Value.slice A6 m6 c6).ownBlock = some g) W w1 := (Only.alloc _ _ _).trans r2 (fun _ _ e => e)
    have hput := put_final j1 j2 j3 j4 r1 ho1 (r3.imp id (fun ⟨g, a, b⟩ => ⟨g, a, by simp at b; omega⟩))
    have hv6 : (Value.slice A6 m6 c6).ownBlock ≠ some b8 := j2.ne_blk j1 (by decide)
    have d6 : W.cell? ⟨b8, 0, none⟩ = some (.slice A6 m6 c6) := cell_of_blk _ _ _ _ _ j1 0
    have d6' : w1.cell? ⟨b8, 0, none⟩ = some (.slice A6 m6 c6) := (ho1.cell (p := ⟨b8, 0, none⟩) (lt_blk j1) hv6).trans d6
    have f6' : w1.frozen? ⟨b8, 0, none⟩ = false := (ho1.frozen (p := ⟨b8, 0, none⟩) (lt_blk j1) hv6).trans (by simp [World.frozen?, j1])
    obtain ⟨T6, hbr, hon, hnew⟩ := hput
    have hw2 := hw.step hbr hon hnew
    have HR1 := Lib.hid hr1
    have H2 := Lib.hid (And.intro hw2 (And.intro hon hnew))
    have HV := Lib.hid (And.intro hv (And.intro hd (And.intro hnf hlen)))
    have HDT := Lib.hid hdt
    clear hw j1 j2 j3 j4 hr1 r1 r2 r3 ho1 hbr hon hnew hw2 hv6 hbw hdt
    go_enter Try.func29, Try.ntmps29
    go_upto_region 1 with (first | (at_builtin; refine Lib.wpList_append_run _ rfl _ _ _ _ rfl _ _ rfl rfl _ _ HR1.out ?_) | fail)
    generalize hW2 : World.setCell w1 _ _ = W2 at *
    clear hW2 d6 d6' f6' HR1
    have x0 := cell_of_blk _ _ _ _ _ H2.out.1.t7 0
    have x1 := cell_of_blk _ _ _ _ _ H2.out.1.t7 1
    have x2 := cell_of_blk _ _ _ _ _ H2.out.1.t7 2
    simp at x0 x1 x2
    have hbi := below_in H2.out.1.tr v hvn (by omega)
    unfold treeV at hbi
    have HBI := Lib.hid hbi
    obtain ⟨l, hl⟩ : ∃ l, belowOf up n v = l := ⟨_, rfl⟩
    rw [hl] at HBI
    have HL := Lib.hid hl
    clear hbi hl
    go_wp2_with fail
    clear x0 x1 x2
    refine HBI.out.mono ?_
    rintro e W3 ⟨A, c, rfl, hrow, hb3⟩
    have H3 := Lib.hid (And.intro (H2.out.1.later hb3) (And.intro hrow hb3))
    have hll : l.length ≤ n := by rw [← HL.out]; exact belowOf_len up n v
    clear hrow hb3 HBI
    go_wp2_with fail
    go_loopw [15] (fun i wr => ∃ j : Nat, i = .int .i64 (j : Int) ∧ Hid (j ≤ l.length ∧ ∃ U, DW wr tb base n qu qb qd ts up deep b7 b8 b9 ((ws ++ [v]) ++ (l.take j).flatMap (preT up n f)) U ∧ Only (fun g => T6 g ∨ W3.heap.size ≤ g) W3 wr ∧ ∀ g, U g → T6 g ∨ W3.heap.size ≤ g)) (fun i _ => l.length - (intOf i).toNat)
    case atStart => exact ⟨0, rfl, Lib.hid ⟨Nat.zero_le _, T6, by simpa using H3.out.1, Only.refl _ _, fun g hg => .inl hg⟩⟩
    case round =>
      obtain ⟨j, rfl, HI⟩ := hrel
      obtain ⟨hj0, U, hdw, hon, hUn⟩ := HI.out
      clear HI
      by_cases hj : j < l.length
      · obtain ⟨x, hx⟩ : ∃ x, l[j]? = some x := ⟨_, List.getElem?_eq_getElem hj⟩
        have hxm : x ∈ belowOf up n v := by rw [HL.out]; exact List.mem_of_getElem? hx
        obtain ⟨k1, k2, k3, k4⟩ := HDT.out.kid HV.out.2.1 hxm
        have hrow : RowAt wr W2.heap.size 3 (.slice A l.length c) (l.map iv) := H3.out.2.1.only hon (fun g hg e => by
          have h1 := H3.out.2.1.lt hg
          rcases e with e | e
          · have := (H2.out.1.row.lt e).1; omega
          · omega)
        obtain ⟨g0, o0, rfl⟩ : ∃ g o, A = some ⟨g, o, none⟩ := by
          rcases hrow with ⟨h1, h2⟩ | ⟨g, o, cap, cur, h1, _⟩
          · have : l = [] := by simpa using h2
            rw [this] at hj; simp at hj
          · injection h1 with h1; exact ⟨g, o, h1⟩
        have hc := hrow.cell j (iv x) (by rw [List.getElem?_map, hx]; rfl)
        unfold iv at hc
        have pp1 : ((j : Int) < (l.length : Int)) = True := eq_true (by omega)
        have j0 : 0 ≤ (j : Int) := by omega
        have j1 : (j : Int) < (l.length : Int) := by omega
        have e9 := cell_of_blk _ _ _ _ _ hdw.f9 0
        simp at e9
        unfold dclo at e9
        have htk : (l.take (j + 1)).flatMap (preT up n f) = (l.take j).flatMap (preT up n f) ++ preT up n f x := by
          rw [take_snoc' l j x hx, List.flatMap_append]; simp
        have hlen2 : ((ws ++ [v]) ++ (l.take j).flatMap (preT up n f)).length + (preT up n f x).length ≤ 1000 := by
          have h1 : (preT up n (f + 1) v).length = 1 + (l.flatMap (preT up n f)).length := by
            show (v :: (belowOf up n v).flatMap (preT up n f)).length = _
            rw [HL.out]; simp; omega
          have h2 : ((l.take (j + 1)).flatMap (preT up n f)).length ≤ (l.flatMap (preT up n f)).length := by
            conv => rhs; rw [← List.take_append_drop (j + 1) l, List.flatMap_append, List.length_append]
            omega
          rw [htk, List.length_append] at h2
          have h3 := HV.out.2.2.2
          simp only [List.length_append, List.length_singleton]
          omega
        have HX := Lib.hid (IH.out x (d + 1) _ U wr hdw k2 k3 (by have := HV.out.2.2.1; omega) hlen2)
        have HJ := Lib.hid (And.intro hdw (And.intro hon (And.intro hUn htk)))
        clear hx hxm k1 k2 k3 k4 hrow hdw hon hUn htk hlen2
        go_wp2_with fail
        refine HX.out.mono ?_
        rintro e w4 ⟨rfl, U', hw4, ho4, hn4⟩
        have HE := Lib.hid (show ∃ U, DW w4 tb base n qu qb qd ts up deep b7 b8 b9 ((ws ++ [v]) ++ (l.take (j + 1)).flatMap (preT up n f)) U ∧ Only (fun g => T6 g ∨ W3.heap.size ≤ g) W3 w4 ∧ ∀ g, U g → T6 g ∨ W3.heap.size ≤ g from
          ⟨U', by rw [HJ.out.2.2.2, ← List.append_assoc]; exact hw4, HJ.out.2.1.trans ho4 (fun g _ e => HJ.out.2.2.1 g e), fun g hg => by
            rcases hn4 g hg with e | e
            · exact HJ.out.2.2.1 g e
            · have := HJ.out.2.1.size; exact .inr (by omega)⟩)
        clear hw4 ho4 hn4 hc e9
        go_wp2_with fail
        go_roundw
        case rel => exact ⟨j + 1, by go_num, Lib.hid ⟨by omega, HE.out⟩⟩
        case measure => simp [intOf]; omega
      · obtain rfl : j = l.length := by omega
        have pp1 : ((l.length : Int) < (l.length : Int)) = False := eq_false (by omega)
        rw [List.take_length] at hdw
        have hpre : preT up n (f + 1) v = v :: l.flatMap (preT up n f) := by rw [← HL.out]; rfl
        have HE := Lib.hid (show ∃ S', DW wr tb base n qu qb qd ts up deep b7 b8 b9 (ws ++ preT up n (f + 1) v) S' ∧ Only S W wr ∧ ∀ g, S' g → S g ∨ W.heap.size ≤ g from by
          have hs3 := H3.out.2.2.size
          have hs2 := H2.out.2.1.size
          refine ⟨U, by rw [hpre]; simpa using hdw, ?_, fun g hg => ?_⟩
          · have h23 : Only S W W3 := H2.out.2.1.trans (Only.of_below H3.out.2.2) (fun k hk e => by omega)
            exact h23.trans hon (fun k hk e => by
              rcases e with e | e
              · exact (H2.out.2.2 k e).resolve_right (by omega)
              · omega)
          · rcases hUn g hg with e | e
            · exact H2.out.2.2 g e
            · exact .inr (by omega))
        clear hdw hon hUn
        go_wp2_with fail
        go_end0
        exact ⟨rfl, HE.out⟩
end Go.Proofs.Ytnkbbjeepdjamaa
