/- What refinerylaw02.BagJoins' walk comes to. Conditions: the rows' cells hold texts. -/
import Derived.Test.YteojcdpmlhlfaaaJoinSubS
import Derived.Test.YteojcdpmlhlfaaaAwake
import Derived.Test.YteojcdpmlhlfaaaRow
import Derived.Test.YteojcdpmlhlfaaaAppCells
import Derived.Test.YteojcdpmlhlfaaaBJPlain
import Derived.Deep.RegionHeld3
import Derived.Lib.AppendZeros
namespace Go.Proofs.Yteojcdpmlhlfaaa
open Go.RowKit Go.Shelf SS
theorem cells_belowS {A : Option Addr} {l : List ByteArray} {w W : World} (h : CellsAt A l w) (hb : Below w.heap.size w W) : CellsAt A l W := fun i hi => by
  obtain ⟨g, o, e, hc⟩ := h i hi
  exact ⟨g, o, e, (hb.cell (p := ⟨g, o + i, none⟩) (block_lt_of_cell hc)).trans hc⟩
theorem isset_laterS {w W : World} {b : Nat} {v : Value} {l : List ByteArray} (h : IsSetS w b v l) (hb : Below w.heap.size w W) : IsSetS W b v l := h.only (Only.of_below hb) (fun g hg e => by have := (own_lt h.own hg).1; omega)
/-- A set's box and its row. -/
structure Box (W : World) (B p : Nat) (v : Value) (xs : List ByteArray) : Prop where
  blk : W.heap[p]? = some (.cells #[v] 47 (0, 0))
  set : IsSetS W B v xs
theorem Box.only {S : Nat → Prop} {W W' : World} {B p : Nat} {v : Value} {xs : List ByteArray} (h : Box W B p v xs) (ho : Only S W W') (hp : ¬ S p) (hv : ∀ g, v.ownBlock = some g → ¬ S g) : Box W' B p v xs :=
  ⟨(ho.block p (Array.getElem?_eq_some_iff.1 h.blk).1 hp).trans h.blk, h.set.only ho hv⟩
theorem Box.later {W W' : World} {B p : Nat} {v : Value} {xs : List ByteArray} (h : Box W B p v xs) (hb : Below W.heap.size W W') : Box W' B p v xs :=
  ⟨(hb.block p (Array.getElem?_eq_some_iff.1 h.blk).1).trans h.blk, isset_laterS h.set hb⟩
theorem Box.lt {W : World} {B p : Nat} {v : Value} {xs : List ByteArray} (h : Box W B p v xs) : p < W.heap.size ∧ ∀ g, v.ownBlock = some g → g < W.heap.size ∧ g ≠ p := ⟨(Array.getElem?_eq_some_iff.1 h.blk).1, fun g hg => ⟨(own_lt h.set.own hg).1, fun e => own_ne_blk h.set.own h.blk (by decide) (by rw [hg, e])⟩⟩
theorem Box.cell {W : World} {B p : Nat} {v : Value} {xs : List ByteArray} (h : Box W B p v xs) : W.cell? ⟨p, 0, none⟩ = some v := by rw [cell_of_blk _ _ _ _ _ h.blk]; rfl
theorem Box.new {W : World} {B : Nat} {v : Value} {xs : List ByteArray} (h : IsSetS W B v xs) : Box (W.alloc (.cells #[v] 47)) B W.heap.size v xs :=
  ⟨heap_alloc_new W _, h.only (Only.alloc (fun _ => False) W _) (fun _ _ => id)⟩
theorem own_cellsAt {w : World} {base n : Nat} {v : Value} {l : List ByteArray} (h : w.ownsRow base 9 1 v n (l.map Value.string)) : ∃ A c, v = .slice A l.length c ∧ CellsAt A l w := by
  rcases own_forms h with ⟨rfl, rfl, hx⟩ | ⟨g, cap, cur, rfl, _, hh, hl, _, _, hxl⟩
  · obtain rfl : l = [] := List.map_eq_nil_iff.1 hx
    exact ⟨none, 0, rfl, fun i hi => by simp at hi⟩
  · obtain rfl : l.length = n := by simpa using hxl
    refine ⟨_, cap, rfl, fun i hi => ⟨g, 0, rfl, ?_⟩⟩
    rw [Nat.zero_add]
    exact own_cell h i _ (by rw [List.getElem?_map, List.getElem?_eq_getElem hi]; rfl)
theorem cells_map {A : Option Addr} {l : List ByteArray} {w : World} (h : CellsAt A l w) : ∀ j u, (l.map Value.string)[j]? = some u → ∃ g o, A = some ⟨g, o, none⟩ ∧ w.cell? ⟨g, o + j, none⟩ = some u := by
  intro j u hj
  rw [List.getElem?_map, Option.map_eq_some_iff] at hj
  obtain ⟨s, hs, rfl⟩ := hj
  obtain ⟨hlt, rfl⟩ := List.getElem?_eq_some_iff.1 hs
  exact h j hlt
theorem one_map (l : List ByteArray) : ∀ u ∈ l.map Value.string, u.oneCell' = true := by
  intro u hu
  obtain ⟨s, _, rfl⟩ := List.mem_map.1 hu
  rfl
/-- The five boxes. -/
structure J5 (w W : World) (B z pu pv pw : Nat) (vs vt vu vv vw : Value) (xs ys us ws ns : List ByteArray) : Prop where
  bs : Box W B z vs xs
  bt : Box W B (z + 1) vt ys
  bu : Box W (z + 2) pu vu us
  bv : Box W z pv vv ws
  bw : Box W (pv + 1) pw vw ns
  below : Below B w W
  wB : w.heap.size = B
theorem J5.later {w W W' : World} {B z pu pv pw : Nat} {vs vt vu vv vw : Value} {xs ys us ws ns : List ByteArray} (h : J5 w W B z pu pv pw vs vt vu vv vw xs ys us ws ns) (hb : Below W.heap.size W W') : J5 w W' B z pu pv pw vs vt vu vv vw xs ys us ws ns :=
  ⟨h.bs.later hb, h.bt.later hb, h.bu.later hb, h.bv.later hb, h.bw.later hb, h.below.trans (hb.mono (by have := h.wB; have := h.below.size; omega)), h.wB⟩
section
variable {w W W' : World} {B z pu pv pw : Nat} {vs vt vu vv vw : Value} {xs ys us ws ns : List ByteArray} {A1 : Option Addr} {la : List ByteArray}
def JJ (w : World) (B z pu pv pw : Nat) (vs vt vu vv vw : Value) (xs ys us ws ns : List ByteArray) (A1 : Option Addr) (la : List ByteArray) (W : World) : Prop :=
  J5 w W B z pu pv pw vs vt vu vv vw xs ys us ws ns ∧ CellsAt A1 la W
@[reducible] def JS (w : World) (B z pu pv pw : Nat) (vs vt vu vv vw : Value) (xs ys us ws ns : List ByteArray) (A1 : Option Addr) (la : List ByteArray) (W : World) : Prop :=
  JJ w B z pu pv pw vs vt vu vv vw xs ys us ws ns A1 la W ∧ W.cell? ⟨z, 0, none⟩ = some vs ∧ W.cell? ⟨z + 1, 0, none⟩ = some vt ∧ W.cell? ⟨pu, 0, none⟩ = some vu ∧ W.cell? ⟨pv, 0, none⟩ = some vv ∧ W.cell? ⟨pw, 0, none⟩ = some vw
theorem J5.jj (h : J5 w W B z pu pv pw vs vt vu vv vw xs ys us ws ns) (hc : CellsAt A1 la w) : JJ w B z pu pv pw vs vt vu vv vw xs ys us ws ns A1 la W :=
  ⟨h, cells_belowS hc (by have := h.below; rwa [← h.wB] at this)⟩
theorem JJ.later (h : JJ w B z pu pv pw vs vt vu vv vw xs ys us ws ns A1 la W) (hb : Below W.heap.size W W') : JJ w B z pu pv pw vs vt vu vv vw xs ys us ws ns A1 la W' := ⟨h.1.later hb, cells_belowS h.2 hb⟩
theorem JJ.all (h : JJ w B z pu pv pw vs vt vu vv vw xs ys us ws ns A1 la W) : JS w B z pu pv pw vs vt vu vv vw xs ys us ws ns A1 la W := ⟨h, h.1.bs.cell, h.1.bt.cell, h.1.bu.cell, h.1.bv.cell, h.1.bw.cell⟩
theorem JJ.drew (h : JJ w B z pu pv pw vs vt vu vv vw xs ys us ws ns A1 la W) : JJ w B z pu pv pw vs vt vu vv vw xs ys us ws ns A1 la W.drew := h.later ((Only.drew (fun _ => False) _).below (Nat.le_refl _) (fun _ _ => id))
theorem jj_same_uv (h : JJ w B z pu pv pw vs vt vu vv vw xs ys us ws ns A1 la W) : Calls Try.prog 23 #[.agg #[vu], .agg #[vv]] W fun e W' => e = .returned (.bool (decide (us = ws))) ∧ JJ w B z pu pv pw vs vt vu vv vw xs ys us ws ns A1 la W' :=
  (same _ _ _ _ _ _ _ h.1.bu.set h.1.bv.set).mono fun _ _ ⟨e, hb⟩ => ⟨e, h.later hb⟩
theorem jj_same_wv (h : JJ w B z pu pv pw vs vt vu vv vw xs ys us ws ns A1 la W) : Calls Try.prog 23 #[.agg #[vw], .agg #[vv]] W fun e W' => e = .returned (.bool (decide (ns = ws))) ∧ JJ w B z pu pv pw vs vt vu vv vw xs ys us ws ns A1 la W' :=
  (same _ _ _ _ _ _ _ h.1.bw.set h.1.bv.set).mono fun _ _ ⟨e, hb⟩ => ⟨e, h.later hb⟩
theorem jj_same_st (h : JJ w B z pu pv pw vs vt vu vv vw xs ys us ws ns A1 la W) : Calls Try.prog 23 #[.agg #[vs], .agg #[vt]] W fun e W' => e = .returned (.bool (decide (xs = ys))) ∧ JJ w B z pu pv pw vs vt vu vv vw xs ys us ws ns A1 la W' :=
  (same _ _ _ _ _ _ _ h.1.bs.set h.1.bt.set).mono fun _ _ ⟨e, hb⟩ => ⟨e, h.later hb⟩
theorem jj_same_so (v20 : Value) (b20 : Nat) (l20 : List ByteArray) (hs : IsSetS W b20 v20 l20) (h : JJ w B z pu pv pw vs vt vu vv vw xs ys us ws ns A1 la W) : Calls Try.prog 23 #[.agg #[vs], .agg #[v20]] W fun e W' => e = .returned (.bool (decide (xs = l20))) ∧ JJ w B z pu pv pw vs vt vu vv vw xs ys us ws ns A1 la W' :=
  (same _ _ _ _ _ _ _ h.1.bs.set hs).mono fun _ _ ⟨e, hb⟩ => ⟨e, h.later hb⟩
theorem jj_len_u (h : JJ w B z pu pv pw vs vt vu vv vw xs ys us ws ns A1 la W) : Calls Try.prog 24 #[.agg #[vu]] W fun e W' => e = .returned (.int .i64 (us.length)) ∧ JJ w B z pu pv pw vs vt vu vv vw xs ys us ws ns A1 la W' :=
  (lenS _ _ _ _ h.1.bu.set).mono fun _ _ ⟨e, hb⟩ => ⟨e, h.later hb⟩
theorem jj_len_s (h : JJ w B z pu pv pw vs vt vu vv vw xs ys us ws ns A1 la W) : Calls Try.prog 24 #[.agg #[vs]] W fun e W' => e = .returned (.int .i64 (xs.length)) ∧ JJ w B z pu pv pw vs vt vu vv vw xs ys us ws ns A1 la W' :=
  (lenS _ _ _ _ h.1.bs.set).mono fun _ _ ⟨e, hb⟩ => ⟨e, h.later hb⟩
theorem jj_len_t (h : JJ w B z pu pv pw vs vt vu vv vw xs ys us ws ns A1 la W) : Calls Try.prog 24 #[.agg #[vt]] W fun e W' => e = .returned (.int .i64 (ys.length)) ∧ JJ w B z pu pv pw vs vt vu vv vw xs ys us ws ns A1 la W' :=
  (lenS _ _ _ _ h.1.bt.set).mono fun _ _ ⟨e, hb⟩ => ⟨e, h.later hb⟩
theorem jj_has_v (x : ByteArray) (hn : ws.length ≤ 1048576) (h : JJ w B z pu pv pw vs vt vu vv vw xs ys us ws ns A1 la W) : Calls Try.prog 25 #[.agg #[vv], .string x] W fun e W' => e = .returned (.bool (decide (x ∈ ws))) ∧ JJ w B z pu pv pw vs vt vu vv vw xs ys us ws ns A1 la W' :=
  (hasS _ _ _ _ _ h.1.bv.set hn).mono fun _ _ ⟨e, hb⟩ => ⟨e, h.later hb⟩
theorem jj_has_w (x : ByteArray) (hn : ns.length ≤ 1048576) (h : JJ w B z pu pv pw vs vt vu vv vw xs ys us ws ns A1 la W) : Calls Try.prog 25 #[.agg #[vw], .string x] W fun e W' => e = .returned (.bool (decide (x ∈ ns))) ∧ JJ w B z pu pv pw vs vt vu vv vw xs ys us ws ns A1 la W' :=
  (hasS _ _ _ _ _ h.1.bw.set hn).mono fun _ _ ⟨e, hb⟩ => ⟨e, h.later hb⟩
theorem jj_of (c1 : Nat) (hn : la.length ≤ 1048576) (h : JJ w B z pu pv pw vs vt vu vv vw xs ys us ws ns A1 la W) : Calls Try.prog 18 #[.slice A1 la.length c1] W fun e W' => ∃ v', e = .returned (.agg #[v']) ∧ IsSetS W' W.heap.size v' (ofLS la) ∧ JJ w B z pu pv pw vs vt vu vv vw xs ys us ws ns A1 la W' :=
  (of _ _ _ _ hn h.2).mono fun _ _ ⟨v', e, hs, hb⟩ => ⟨v', e, hs, h.later hb⟩
theorem jj_join (hn : us.length ≤ 1048576) (hsub : ∀ y ∈ ys, y ∈ us) (h : JJ w B z pu pv pw vs vt vu vv vw xs ys us ws ns A1 la W) : Calls Try.prog 20 #[.pointer (some ⟨pu, 0, none⟩), .agg #[vt]] W fun e W' => e = .returned (.bool false) ∧ JJ w B z pu pv pw vs vt vu vv vw xs ys us ws ns A1 la W' :=
  (join_sub (z + 2) pu 0 B _ _ us ys _ h.1.bu.set h.1.bt.set hn _ _ h.1.bu.blk rfl hsub).mono fun _ _ ⟨e, hb⟩ => ⟨e, h.later hb⟩
end
set_option maxRecDepth 100000 in
set_option maxHeartbeats 20000000 in
theorem joins_walk (A1 A2 : Option Addr) (c1 c2 : Nat) (la lb : List ByteArray) (x : ByteArray) (w : World) (hn1 : (decide ((30 : Int) < (la.length : Int))) = false) (hn2 : (decide ((30 : Int) < (lb.length : Int))) = false)
    (h1 : la.length ≤ 30) (h2 : lb.length ≤ 30) (hA1 : CellsAt A1 la w) (hA2 : CellsAt A2 lb w) :
    Calls Try.prog 5 #[.slice A1 la.length c1, .slice A2 lb.length c2, .string x] w fun e w' => e = .returned (.bool true) ∧ Below w.heap.size w w' := by
  have HA := Lib.hid (And.intro hA1 hA2)
  clear hA1 hA2
  obtain ⟨B, hB⟩ : ∃ B, w.heap.size = B := ⟨_, rfl⟩
  have HB := Lib.hid hB
  go_enter Try.func5, Try.ntmps5
  go_wp2_with fail
  refine (awake _).mono ?_
  rintro e w1 ⟨rfl, hb1⟩
  rw [hB] at hb1
  have HO1 := Lib.hid (of A1 c1 la w1 (by omega) (cells_belowS HA.out.1 (hB ▸ hb1)))
  have HB1 := Lib.hid hb1
  clear hb1
  go_wp2_with fail
  refine HO1.out.mono ?_
  rintro e w2 ⟨v1, rfl, hs1, hb2⟩
  clear HO1
  have hb02 : Below B w w2 := HB1.out.trans (hb2.mono (by have := HB1.out.size; omega))
  have HO2 := Lib.hid (of A2 c2 lb w2 (by omega) (cells_belowS HA.out.2 (hB ▸ hb02)))
  go_wp2_with fail
  refine HO2.out.mono ?_
  rintro e w3 ⟨v2, rfl, hs2, hb3⟩
  clear HO2
  obtain ⟨A3, c3, rfl, _, _, _⟩ := isset_cells hs1
  obtain ⟨A4, c4, rfl, _, _, _⟩ := isset_cells hs2
  have hb03 : Below B w w3 := hb02.trans (hb3.mono (by have := hb02.size; omega))
  have hs13 := isset_laterS hs1 hb3
  have hbs : Box (w3.alloc (.cells #[.slice A3 (ofLS la).length c3] 47)) B w3.heap.size (.slice A3 (ofLS la).length c3) (ofLS la) := Box.new ⟨own_base hs13.own (by have := HB1.out.size; omega), hs13.srt⟩
  have hbt : Box ((w3.alloc (.cells #[.slice A3 (ofLS la).length c3] 47)).alloc (.cells #[.slice A4 (ofLS lb).length c4] 47)) B (w3.heap.size + 1) (.slice A4 (ofLS lb).length c4) (ofLS lb) := by
    have := Box.new (W := w3.alloc (.cells #[.slice A3 (ofLS la).length c3] 47)) (B := B) (v := .slice A4 (ofLS lb).length c4) (xs := ofLS lb) (⟨own_base (hs2.only (Only.alloc (fun _ => False) w3 _) (fun _ _ => id)).own (by have := hb02.size; omega), hs2.srt⟩)
    rwa [World.size_alloc] at this
  obtain ⟨W4, hW4⟩ : ∃ W4, W4 = (w3.alloc (.cells #[.slice A3 (ofLS la).length c3] 47)).alloc (.cells #[.slice A4 (ofLS lb).length c4] 47) := ⟨_, rfl⟩
  have hbs4 : Box W4 B w3.heap.size (.slice A3 (ofLS la).length c3) (ofLS la) := by rw [hW4]; exact hbs.only (Only.alloc (fun _ => False) _ _) id (fun _ _ => id)
  rw [← hW4] at hbt
  have hb4 : Below B w W4 := by rw [hW4]; exact (hb03.alloc (by have := hb03.size; omega) _).alloc (by have := hb03.size; simp; omega) _
  have hsz4 : W4.heap.size = w3.heap.size + 2 := by rw [hW4]; simp
  have hlt3 := fun g hg => (own_lt hs13.own (g := g) hg).1
  have hlt4 := fun g hg => (own_lt hs2.own (g := g) hg).1
  have hBz : B ≤ w3.heap.size := by have := hb03.size; omega
  have hlx := ofLS_len la
  have hly := ofLS_len lb
  have HCL := Lib.hid (clone B _ _ W4 hbs4.set (by omega))
  rw [hW4] at HCL
  have HW4 := Lib.hid hW4
  clear hs1 hs2 hs13 hb2 hb3 hb02 hb03 hbs hW4
  generalize hxs : ofLS la = xs at *
  generalize hys : ofLS lb = ys at *
  have HXS := Lib.hid (And.intro hxs hys)
  clear hxs hys
  go_wp2_with fail
  refine HCL.out.mono ?_
  rintro e w5 ⟨vu, rfl, hsu, hb5⟩
  rw [← HW4.out] at hsu hb5
  clear HCL HW4
  obtain ⟨A5, c5, rfl, _, _, _⟩ := isset_cells hsu
  generalize w3.heap.size = z at *
  have hs5 := hbs4.later hb5
  have ht5 := hbt.later hb5
  obtain ⟨W6, hW6⟩ : ∃ W6, W6 = w5.alloc (.cells #[.slice A5 xs.length c5] 47) := ⟨_, rfl⟩
  have ho6 : Only (fun _ => False) w5 W6 := by rw [hW6]; exact Only.alloc _ _ _
  have hu6 : Box W6 (z + 2) w5.heap.size (.slice A5 xs.length c5) xs := by
    rw [hW6]; exact Box.new ⟨own_base hsu.own (by omega), hsu.srt⟩
  have hs6 := hs5.only ho6 id (fun _ _ => id)
  have ht6 := ht5.only ho6 id (fun _ _ => id)
  have htc := ht6.cell
  rw [hW6] at htc
  have hu5 : z + 2 ≤ w5.heap.size := by have := hb5.size; omega
  have hsep : ∀ g, (Value.slice A5 xs.length c5).ownBlock = some g → (Value.slice A4 ys.length c4).ownBlock ≠ some g := fun g hg e => by
    have h1 := (own_lt hsu.own hg).2
    have h2 := (hbt.lt.2 g e).1
    omega
  have HJ := Lib.hid (join (z + 2) w5.heap.size 0 B _ _ xs ys W6 hu6.set ht6.set (by omega) _ _ hu6.blk rfl (fun e => (hu6.lt.2 _ e).2 rfl) (by have := hu6.lt.1; omega) (fun e => by have := (hbt.lt.2 _ e).1; omega) hsep)
  rw [hW6] at HJ
  have HW6 := Lib.hid hW6
  have hb6 : Below B w W6 := hb4.trans ((hb5.mono (by have := hb4.size; omega)).trans (ho6.below (by have := hb4.size; have := hb5.size; omega) (fun _ _ => id)))
  have HST := Lib.hid (And.intro hs6 (And.intro ht6 (And.intro hu6 hb6)))
  clear hW6 hs5 ht5 hs6 ht6 hu6 hsu hb5 hb4 hbt hbs4 hb6 ho6
  go_wp2_with fail
  refine HJ.out.mono ?_
  rintro e w7 ⟨vu', rfl, hsu7, hput, hnew⟩
  rw [← HW6.out] at hput hnew
  clear HJ HW6
  obtain ⟨A6, c6, rfl, _, _, _⟩ := isset_cells hsu7
  obtain ⟨pu, hpu⟩ : ∃ pu, w5.heap.size = pu := ⟨_, rfl⟩
  rw [hpu] at hput HST hu5
  obtain ⟨hs6, ht6, hu6, hb6⟩ := HST.out
  have hs7 : Box w7 B z (.slice A3 xs.length c3) xs := hs6.only hput.only (by
      rintro (e | e)
      · omega
      · have := (own_lt hu6.set.own e).2; omega) (fun g hg e => by
      have h1 := hlt3 g hg
      rcases e with e | e
      · omega
      · have := (own_lt hu6.set.own e).2; omega)
  have ht7 : Box w7 B (z + 1) (.slice A4 ys.length c4) ys := ht6.only hput.only (by
      rintro (e | e)
      · omega
      · have := (own_lt hu6.set.own e).2; omega) (fun g hg e => by
      have h1 := hlt4 g hg
      rcases e with e | e
      · omega
      · have := (own_lt hu6.set.own e).2; omega)
  have hu7 : Box w7 (z + 2) pu (.slice A6 (joinL xs ys).length c6) (joinL xs ys) := ⟨hput.blk _ _ _ hu6.blk, hsu7⟩
  have hb7 : Below B w w7 := hb6.trans (hput.only.below (by have := hb6.size; omega) (fun k hk e => by
      rcases e with e | e
      · omega
      · have := (own_lt hu6.set.own e).2; omega))
  have HB7 := Lib.hid (And.intro hs7 (And.intro ht7 (And.intro hu7 hb7)))
  clear hs6 ht6 hu6 hb6 hput hnew hsu7 HST hs7 ht7 hu7 hb7
  obtain ⟨i0, hi0, hz0, hz1, hz2⟩ := info_parts infoS
  have hcA : ∀ W, Below B w W → CellsAt A1 la W ∧ CellsAt A2 lb W := fun W hb => ⟨cells_belowS HA.out.1 (hB ▸ hb), cells_belowS HA.out.2 (hB ▸ hb)⟩
  obtain ⟨W8, hW8⟩ : ∃ W8, W8 = w7.alloc (.cells #[] 9) := ⟨_, rfl⟩
  have hb8 : Below w7.heap.size w7 W8 := by rw [hW8]; exact (Below.refl _ _).alloc (Nat.le_refl _) _
  have hbw8 : Below B w W8 := HB7.out.2.2.2.trans (hb8.mono (by have := HB7.out.2.2.2.size; omega))
  have hrow8 : W8.ownsRow w7.heap.size 9 1 (.slice (some ⟨w7.heap.size, 0, none⟩) 0 0) 0 ([] : List Value) :=
    ⟨rfl, .inr ⟨w7.heap.size, 0, #[], rfl, Nat.le_refl _, by rw [hW8]; exact heap_alloc_new w7 _, by omega, by simp [maxLen], rfl, rfl⟩⟩
  obtain ⟨v9, w9, hr9, hrow9, hg9⟩ := append_cells (P := Try.prog) 45 45 9 i0 _ 16 Try.underlying45 hi0 hz0 hz1 hz2 rfl hrow8 A2 c2 (lb.map Value.string) (cells_map (hcA W8 hbw8).2) (one_map lb) hb8.size (by simp [maxLen]; omega) (by simp; omega)
  have hb9 : Below w7.heap.size w7 w9 := hb8.trans ((Only.grown hg9).below hb8.size (fun k hk e => by simp only [Value.ownBlock, Option.some.injEq] at e; omega))
  have hbw9 : Below B w w9 := HB7.out.2.2.2.trans (hb9.mono (by have := HB7.out.2.2.2.size; omega))
  simp only [List.length_map, Nat.zero_add, List.nil_append] at hrow9 hr9
  obtain ⟨v10, w10, hr10, hrow10, hg10⟩ := append_cells (P := Try.prog) 45 45 9 i0 _ 16 Try.underlying45 hi0 hz0 hz1 hz2 rfl hrow9 A1 c1 (la.map Value.string) (cells_map (hcA w9 hbw9).1) (one_map la) hb9.size (by simp [maxLen]; omega) (by simp; omega)
  have hb10 : Below w7.heap.size w7 w10 := hb9.trans ((Only.grown hg10).below hb9.size (fun k hk e => by have := (own_lt hrow9 e).2; omega))
  rw [← List.map_append] at hrow10
  simp only [List.length_map] at hrow10 hr10
  obtain ⟨A7, c7, rfl, hc10⟩ := own_cellsAt hrow10
  have HOF := Lib.hid (of A7 c7 (lb ++ la) w10 (by simp; omega) hc10)
  have HR9 := Lib.hid hr9
  have HR10 := Lib.hid hr10
  rw [hW8] at HR9
  have HB10 := Lib.hid hb10
  clear hW8 hb8 hbw8 hrow8 hr9 hrow9 hg9 hb9 hbw9 hr10 hrow10 hg10 hb10 hc10 hcA hi0 hz0 hz1 hz2
  go_wp2_with (first
    | (at_builtin; refine Lib.wpList_append_run _ rfl _ _ _ _ rfl _ _ rfl rfl _ _ HR9.out ?_)
    | (at_builtin; refine Lib.wpList_append_run _ rfl _ _ _ _ rfl _ _ rfl rfl _ _ HR10.out ?_)
    | fail)
  have hlv := ofLS_len (lb ++ la)
  simp only [List.length_append] at HOF hlv
  obtain ⟨vs, hvs⟩ : ∃ vs, ofLS (lb ++ la) = vs := ⟨_, rfl⟩
  have HVS := Lib.hid hvs
  rw [hvs] at HOF hlv
  clear hvs
  refine HOF.out.mono ?_
  rintro e w11 ⟨vv, rfl, hsv, hb11⟩
  clear HOF HR9 HR10
  obtain ⟨A8, c8, rfl, _, _, _⟩ := isset_cells hsv
  have hb711 : Below w7.heap.size w7 w11 := HB10.out.trans (hb11.mono HB10.out.size)
  obtain ⟨W12, hW12⟩ : ∃ W12, W12 = w11.alloc (.cells #[.slice A8 vs.length c8] 47) := ⟨_, rfl⟩
  have hw7B : z ≤ w7.heap.size := by have := HB7.out.2.1.lt.1; omega
  have hv12 : Box W12 z w11.heap.size (.slice A8 vs.length c8) vs := by
    rw [hW12]; exact Box.new ⟨own_base hsv.own (by have := HB10.out.size; omega), hsv.srt⟩
  have hb12 : Below w7.heap.size w7 W12 := by rw [hW12]; exact hb711.alloc hb711.size _
  have hst12 := And.intro (HB7.out.1.later hb12) (And.intro (HB7.out.2.1.later hb12) (HB7.out.2.2.1.later hb12))
  have hbw12 : Below B w W12 := HB7.out.2.2.2.trans (hb12.mono (by omega))
  have HCL := Lib.hid (clone z _ _ W12 hv12.set (by omega))
  rw [hW12] at HCL
  have HW12 := Lib.hid hW12
  have HB12 := Lib.hid (And.intro hst12 (And.intro hv12 hbw12))
  have hpu7 := HB7.out.2.2.1.lt.1
  have hz7 := HB7.out.2.1.lt.1
  have hp11 : w7.heap.size ≤ w11.heap.size := hb711.size
  clear hst12 hv12 hbw12 hb12 hb711 hb11 hsv hW12 HB10 HB7
  go_wp2_with fail
  refine HCL.out.mono ?_
  rintro e w13 ⟨vw, rfl, hsw, hb13⟩
  rw [← HW12.out] at hsw hb13
  clear HCL
  obtain ⟨A9, c9, rfl, _, _, _⟩ := isset_cells hsw
  have hsz12 : W12.heap.size = w11.heap.size + 1 := by rw [HW12.out]; simp
  clear HW12
  generalize w11.heap.size = pv at *
  obtain ⟨W14, hW14⟩ : ∃ W14, W14 = w13.alloc (.cells #[.slice A9 vs.length c9] 47) := ⟨_, rfl⟩
  have hw14 : Box W14 (pv + 1) w13.heap.size (.slice A9 vs.length c9) vs := by
    rw [hW14]; exact Box.new ⟨own_base hsw.own (by omega), hsw.srt⟩
  have hb14 : Below W12.heap.size W12 W14 := by rw [hW14]; exact hb13.alloc hb13.size _
  have hst14 := And.intro (HB12.out.1.1.later hb14) (And.intro (HB12.out.1.2.1.later hb14) (And.intro (HB12.out.1.2.2.later hb14) (HB12.out.2.1.later hb14)))
  have hbw14 : Below B w W14 := HB12.out.2.2.trans (hb14.mono (by omega))
  have hold12 := And.intro HB12.out.1.1.lt (And.intro HB12.out.1.2.1.lt (And.intro HB12.out.1.2.2.lt HB12.out.2.1.lt))
  have hp13 : pv + 1 ≤ w13.heap.size := by have := hb13.size; omega
  have HADD := Lib.hid (addS (pv + 1) w13.heap.size 0 _ vs x W14 hw14.set (by omega) _ _ hw14.blk rfl (fun e => (hw14.lt.2 _ e).2 rfl) (by have := hw14.lt.1; omega))
  rw [hW14] at HADD
  have HW14 := Lib.hid hW14
  have HB14 := Lib.hid (And.intro hst14 (And.intro hw14 (And.intro hbw14 hold12)))
  clear hst14 hw14 hbw14 hold12 hb14 hb13 hsw hW14 HB12
  go_wp2_with fail
  refine HADD.out.mono ?_
  rintro e w15 ⟨vw', rfl, hsw15, hput, hnew⟩
  rw [← HW14.out] at hput hnew
  clear HADD HW14
  obtain ⟨A10, c10, rfl, _, _, _⟩ := isset_cells hsw15
  obtain ⟨pw, hpw⟩ : ∃ pw, w13.heap.size = pw := ⟨_, rfl⟩
  rw [hpw] at hput HB14 hp13
  obtain ⟨⟨hs14, ht14, hu14, hv14⟩, hw14, hbw14, hls, hlt', hlu, hlv'⟩ := HB14.out
  have hownw : ∀ g, (Value.slice A9 vs.length c9).ownBlock = some g → pv + 1 ≤ g := fun g hg => (own_lt hw14.set.own hg).2
  have hoth : ∀ k, k < pv + 1 → ¬ (k = pw ∨ (Value.slice A9 vs.length c9).ownBlock = some k) := fun k hk e => by
    rcases e with e | e
    · omega
    · have := hownw k e; omega
  rw [hsz12] at hls hlt' hlu hlv'
  have hj15 : J5 w w15 B z pu pv pw _ _ _ _ _ xs ys (joinL xs ys) vs (ins ltS x vs) :=
    ⟨hs14.only hput.only (hoth _ hls.1) (fun g hg => hoth g (hls.2 g hg).1), ht14.only hput.only (hoth _ hlt'.1) (fun g hg => hoth g (hlt'.2 g hg).1), hu14.only hput.only (hoth _ hlu.1) (fun g hg => hoth g (hlu.2 g hg).1), hv14.only hput.only (hoth _ hlv'.1) (fun g hg => hoth g (hlv'.2 g hg).1),
      ⟨hput.blk _ _ _ hw14.blk, hsw15⟩, hbw14.trans (hput.only.below (by have := hbw14.size; have := HB.out; omega) (fun k hk e => hoth k (by omega) e)), by have := HB.out; omega⟩
  have hcs := hj15.bs.cell
  have HLIST := Lib.hid (listS B _ xs w15 hj15.bs.set (by omega))
  have HJ15 := Lib.hid hj15
  clear hs14 ht14 hu14 hv14 hw14 hbw14 hput hnew hsw15 HB14 hj15 hoth hownw hls hlt' hlu hlv'
  go_wp2_with fail
  refine HLIST.out.mono ?_
  rintro e w16 ⟨vl, rfl, hsl, hb16⟩
  clear HLIST
  have hj16 := HJ15.out.later hb16
  have hforms := own_forms hsl.own
  rcases hforms with ⟨rfl, hl0, hl0'⟩ | ⟨gl, cl, _, rfl, hgl, hhl, _, _, _, _⟩
  · have HJ16 := Lib.hid hj16
    clear hj16 HJ15 hb16 hsl hl0 hl0'
    go_wp2_with fail
    have hx5 := HXS.out
    have hv5 := HVS.out
    have hj := HJ16.out
    have he1 : decide (joinL xs ys = vs) = true := decide_eq_true (by rw [← hx5.1, ← hx5.2, ← hv5]; exact join_of la lb)
    have he2 : decide ((xs.length : Int) < ((joinL xs ys).length : Int)) = decide (xs.length < (joinL xs ys).length) := by
      by_cases h : xs.length < (joinL xs ys).length
      · rw [decide_eq_true h]; exact decide_eq_true (by omega)
      · rw [decide_eq_false h]; exact decide_eq_false (by omega)
    have he3 : decide (xs = ofLS la) = true := decide_eq_true hx5.1.symm
    have he4 := ins_eq x vs
    have he5 : decide (x ∈ ins ltS x vs) = true := decide_eq_true ((mem_ins x x vs).2 (.inl rfl))
    have hsi := same_iff xs ys hj.bs.set.srt hj.bt.set.srt
    have hsub : ∀ y ∈ ys, y ∈ joinL xs ys := fun y hy => (mem_joinS xs ys y).2 (.inr hy)
    have hla := h1
    have hul : (joinL xs ys).length ≤ 60 := by have := (joinL_len xs ys).2; omega
    have hnl : (ins ltS x vs).length ≤ 1048576 := by have := length_ins (lt := ltS) x vs; split at this <;> omega
    have HL := Lib.hid (And.intro (fun W (h : JJ w B z pu pv pw (.slice A3 xs.length c3) (.slice A4 ys.length c4) (.slice A6 (joinL xs ys).length c6) (.slice A8 vs.length c8) (.slice A10 (ins ltS x vs).length c10) xs ys (joinL xs ys) vs (ins ltS x vs) A1 la W) => jj_same_uv h) (And.intro (fun W (h : JJ w B z pu pv pw (.slice A3 xs.length c3) (.slice A4 ys.length c4) (.slice A6 (joinL xs ys).length c6) (.slice A8 vs.length c8) (.slice A10 (ins ltS x vs).length c10) xs ys (joinL xs ys) vs (ins ltS x vs) A1 la W) => jj_same_wv h) (And.intro (fun W (h : JJ w B z pu pv pw (.slice A3 xs.length c3) (.slice A4 ys.length c4) (.slice A6 (joinL xs ys).length c6) (.slice A8 vs.length c8) (.slice A10 (ins ltS x vs).length c10) xs ys (joinL xs ys) vs (ins ltS x vs) A1 la W) => jj_same_st h) (And.intro (fun W (h : JJ w B z pu pv pw (.slice A3 xs.length c3) (.slice A4 ys.length c4) (.slice A6 (joinL xs ys).length c6) (.slice A8 vs.length c8) (.slice A10 (ins ltS x vs).length c10) xs ys (joinL xs ys) vs (ins ltS x vs) A1 la W) => jj_len_u h) (And.intro (fun W (h : JJ w B z pu pv pw (.slice A3 xs.length c3) (.slice A4 ys.length c4) (.slice A6 (joinL xs ys).length c6) (.slice A8 vs.length c8) (.slice A10 (ins ltS x vs).length c10) xs ys (joinL xs ys) vs (ins ltS x vs) A1 la W) => jj_len_s h) (And.intro (fun W (h : JJ w B z pu pv pw (.slice A3 xs.length c3) (.slice A4 ys.length c4) (.slice A6 (joinL xs ys).length c6) (.slice A8 vs.length c8) (.slice A10 (ins ltS x vs).length c10) xs ys (joinL xs ys) vs (ins ltS x vs) A1 la W) => jj_len_t h) (And.intro (fun W (h : JJ w B z pu pv pw (.slice A3 xs.length c3) (.slice A4 ys.length c4) (.slice A6 (joinL xs ys).length c6) (.slice A8 vs.length c8) (.slice A10 (ins ltS x vs).length c10) xs ys (joinL xs ys) vs (ins ltS x vs) A1 la W) => jj_has_v x (by omega) h) (And.intro (fun W (h : JJ w B z pu pv pw (.slice A3 xs.length c3) (.slice A4 ys.length c4) (.slice A6 (joinL xs ys).length c6) (.slice A8 vs.length c8) (.slice A10 (ins ltS x vs).length c10) xs ys (joinL xs ys) vs (ins ltS x vs) A1 la W) => jj_has_w x hnl h) (And.intro (fun W (h : JJ w B z pu pv pw (.slice A3 xs.length c3) (.slice A4 ys.length c4) (.slice A6 (joinL xs ys).length c6) (.slice A8 vs.length c8) (.slice A10 (ins ltS x vs).length c10) xs ys (joinL xs ys) vs (ins ltS x vs) A1 la W) => jj_of c1 (by omega) h) (fun W (h : JJ w B z pu pv pw (.slice A3 xs.length c3) (.slice A4 ys.length c4) (.slice A6 (joinL xs ys).length c6) (.slice A8 vs.length c8) (.slice A10 (ins ltS x vs).length c10) xs ys (joinL xs ys) vs (ins ltS x vs) A1 la W) => jj_join (by omega) hsub h))))))))))
    have HSO := Lib.hid (fun W v20 b20 l20 (hs : IsSetS W b20 v20 l20) (h : JJ w B z pu pv pw (.slice A3 xs.length c3) (.slice A4 ys.length c4) (.slice A6 (joinL xs ys).length c6) (.slice A8 vs.length c8) (.slice A10 (ins ltS x vs).length c10) xs ys (joinL xs ys) vs (ins ltS x vs) A1 la W) => jj_same_so v20 b20 l20 hs h)
    have hS := (hj.jj HA.out.1).all
    by_cases hg1 : (joinL xs ys).length = xs.length
    · have hg2 : (((joinL xs ys).length : Int) == (xs.length : Int)) = true := by simp [hg1]
      have he8 : decide (xs = ys) = (((joinL xs ys).length : Int) == (ys.length : Int)) := by
        by_cases h : (joinL xs ys).length = ys.length
        · rw [decide_eq_true (hsi.2 ⟨hg1, h⟩)]; simp [h]
        · rw [decide_eq_false (fun e => h (hsi.1 e).2)]; symm; simp; omega
      clear hsi hg1 hx5 hv5 hsub HXS HVS hj hnl
      go_region_held3 (fun W => JJ w B z pu pv pw (.slice A3 xs.length c3) (.slice A4 ys.length c4) (.slice A6 (joinL xs ys).length c6) (.slice A8 vs.length c8) (.slice A10 (ins ltS x vs).length c10) xs ys (joinL xs ys) vs (ins ltS x vs) A1 la W ∧ W.cell? ⟨z, 0, none⟩ = some (.slice A3 xs.length c3) ∧ W.cell? ⟨z + 1, 0, none⟩ = some (.slice A4 ys.length c4) ∧ W.cell? ⟨pu, 0, none⟩ = some (.slice A6 (joinL xs ys).length c6) ∧ W.cell? ⟨pv, 0, none⟩ = some (.slice A8 vs.length c8) ∧ W.cell? ⟨pw, 0, none⟩ = some (.slice A10 (ins ltS x vs).length c10))
        (first | assumption | exact JJ.all (by assumption) | exact JJ.all (JJ.drew (And.left (by assumption))) | exact JJ.all (JJ.drew (by assumption)))
        (first
          | (go_at_call 23; with_reducible refine (HL.out.1 _ (And.left (by assumption))).mono ?_; rintro e w20 ⟨rfl, hj20⟩)
          | (go_at_call 23; with_reducible refine (HL.out.2.1 _ (And.left (by assumption))).mono ?_; rintro e w20 ⟨rfl, hj20⟩)
          | (go_at_call 23; with_reducible refine (HL.out.2.2.1 _ (And.left (by assumption))).mono ?_; rintro e w20 ⟨rfl, hj20⟩)
          | (go_at_call 23; with_reducible refine (HSO.out _ _ _ _ (by assumption) (And.left (by assumption))).mono ?_; rintro e w20 ⟨rfl, hj20⟩)
          | (go_at_call 24; with_reducible refine (HL.out.2.2.2.1 _ (And.left (by assumption))).mono ?_; rintro e w20 ⟨rfl, hj20⟩)
          | (go_at_call 24; with_reducible refine (HL.out.2.2.2.2.1 _ (And.left (by assumption))).mono ?_; rintro e w20 ⟨rfl, hj20⟩)
          | (go_at_call 24; with_reducible refine (HL.out.2.2.2.2.2.1 _ (And.left (by assumption))).mono ?_; rintro e w20 ⟨rfl, hj20⟩)
          | (go_at_call 25; with_reducible refine (HL.out.2.2.2.2.2.2.1 _ (And.left (by assumption))).mono ?_; rintro e w20 ⟨rfl, hj20⟩)
          | (go_at_call 25; with_reducible refine (HL.out.2.2.2.2.2.2.2.1 _ (And.left (by assumption))).mono ?_; rintro e w20 ⟨rfl, hj20⟩)
          | (go_at_call 18; with_reducible refine (HL.out.2.2.2.2.2.2.2.2.1 _ (by assumption)).mono ?_; rintro e w20 ⟨v20, rfl, hs20, hj20⟩)
          | (go_at_call 20; with_reducible refine (HL.out.2.2.2.2.2.2.2.2.2 _ (And.left (by assumption))).mono ?_; rintro e w20 ⟨rfl, hj20⟩))
      all_goals
        rename_i hfin
        have hbel := (And.left (And.left hfin)).below
        have HBE := Lib.hid hbel
        clear hfin hbel hS
        go_wp2
        go_ret
        exact ⟨rfl, by rw [HB.out]; exact HBE.out⟩
    · have hg2 : (((joinL xs ys).length : Int) == (xs.length : Int)) = false := by simp; omega
      have he8 : decide (xs = ys) = false := decide_eq_false (fun e => hg1 (hsi.1 e).1)
      clear hsi hg1 hx5 hv5 hsub HXS HVS hj hnl
      refine wp_region_held_drew (S := (fun W => JJ w B z pu pv pw (.slice A3 xs.length c3) (.slice A4 ys.length c4) (.slice A6 (joinL xs ys).length c6) (.slice A8 vs.length c8) (.slice A10 (ins ltS x vs).length c10) xs ys (joinL xs ys) vs (ins ltS x vs) A1 la W ∧ W.cell? ⟨z, 0, none⟩ = some (.slice A3 xs.length c3) ∧ W.cell? ⟨z + 1, 0, none⟩ = some (.slice A4 ys.length c4) ∧ W.cell? ⟨pu, 0, none⟩ = some (.slice A6 (joinL xs ys).length c6) ∧ W.cell? ⟨pv, 0, none⟩ = some (.slice A8 vs.length c8) ∧ W.cell? ⟨pw, 0, none⟩ = some (.slice A10 (ins ltS x vs).length c10))) (by kernel_rfl) (by (first | assumption | exact JJ.all (by assumption) | exact JJ.all (JJ.drew (And.left (by assumption))) | exact JJ.all (JJ.drew (by assumption)))) (fun hHeld => ?_)
      refine wpAnyH_take (i := 0) (oi := { dst := some 50, op := Go.Op.load 47 (Go.Operand.tmp 9), type := 47, pos := "law.go:77", after := #[], guard := none }) (v := ?_) rfl (by kernel_rfl) (by kernel_rfl) (by kernel_rfl) (fun _ _ _ h => h) (Or.inl ⟨by rfl, ?_⟩) (by assumption) ?_
      rotate_left 1
      · intro w hSw; (try dsimp only at hSw); go_simp; try with_reducible rfl
      try simp only [Act.put, List.setIfInBounds_toArray, List.set_cons_zero, List.set_cons_succ]
      refine wpAnyH_take (i := 1) (oi := { dst := some 51, op := Go.Op.load 47 (Go.Operand.tmp 11), type := 47, pos := "law.go:77", after := #[], guard := none }) (v := ?_) rfl (by kernel_rfl) (by kernel_rfl) (by kernel_rfl) (fun _ _ _ h => h) (Or.inl ⟨by rfl, ?_⟩) (by assumption) ?_
      rotate_left 1
      · intro w hSw; (try dsimp only at hSw); go_simp; try with_reducible rfl
      try simp only [Act.put, List.setIfInBounds_toArray, List.set_cons_zero, List.set_cons_succ]
      refine wpAnyH_ready (rs := [2]) (by kernel_rfl) (by simp) ?_
      refine AllReadyH.cons (o := { dst := some 52, op := Go.Op.call { callee := Go.Callee.value (Go.Operand.func 23), args := #[Go.Operand.tmp 50, Go.Operand.tmp 51], argTypes := #[47, 47] }, type := 4, pos := "law.go:77", after := #[{ on := 0, ground := Go.Ground.data }, { on := 1, ground := Go.Ground.data }], guard := none }) rfl (fun K hK => ?_) AllReadyH.nil
      go_simp
      (first
        | (go_at_call 23; with_reducible refine (HL.out.1 _ (And.left (by assumption))).mono ?_; rintro e w20 ⟨rfl, hj20⟩)
        | (go_at_call 23; with_reducible refine (HL.out.2.1 _ (And.left (by assumption))).mono ?_; rintro e w20 ⟨rfl, hj20⟩)
        | (go_at_call 23; with_reducible refine (HL.out.2.2.1 _ (And.left (by assumption))).mono ?_; rintro e w20 ⟨rfl, hj20⟩)
        | (go_at_call 23; with_reducible refine (HSO.out _ _ _ _ (by assumption) (And.left (by assumption))).mono ?_; rintro e w20 ⟨rfl, hj20⟩)
        | (go_at_call 24; with_reducible refine (HL.out.2.2.2.1 _ (And.left (by assumption))).mono ?_; rintro e w20 ⟨rfl, hj20⟩)
        | (go_at_call 24; with_reducible refine (HL.out.2.2.2.2.1 _ (And.left (by assumption))).mono ?_; rintro e w20 ⟨rfl, hj20⟩)
        | (go_at_call 24; with_reducible refine (HL.out.2.2.2.2.2.1 _ (And.left (by assumption))).mono ?_; rintro e w20 ⟨rfl, hj20⟩)
        | (go_at_call 25; with_reducible refine (HL.out.2.2.2.2.2.2.1 _ (And.left (by assumption))).mono ?_; rintro e w20 ⟨rfl, hj20⟩)
        | (go_at_call 25; with_reducible refine (HL.out.2.2.2.2.2.2.2.1 _ (And.left (by assumption))).mono ?_; rintro e w20 ⟨rfl, hj20⟩)
        | (go_at_call 18; with_reducible refine (HL.out.2.2.2.2.2.2.2.2.1 _ (by assumption)).mono ?_; rintro e w20 ⟨v20, rfl, hs20, hj20⟩)
        | (go_at_call 20; with_reducible refine (HL.out.2.2.2.2.2.2.2.2.2 _ (And.left (by assumption))).mono ?_; rintro e w20 ⟨rfl, hj20⟩))
      go_wp2_with fail
      refine hK.out _ _ ?_ (fun hHeld1 => ?_)
      · (try dsimp only); (first | assumption | exact JJ.all (by assumption) | exact JJ.all (JJ.drew (And.left (by assumption))) | exact JJ.all (JJ.drew (by assumption)))
      clear hK K hHeld
      try simp only [Act.put, List.setIfInBounds_toArray, List.set_cons_zero, List.set_cons_succ]
      refine wpAnyH_take (i := 3) (oi := { dst := some 53, op := Go.Op.move (Go.Operand.tmp 52), type := 4, pos := "law.go:77", after := #[{ on := 2, ground := Go.Ground.data }, { on := 2, ground := Go.Ground.chain }], guard := none }) (v := ?_) rfl (by kernel_rfl) (by kernel_rfl) (by kernel_rfl) (fun _ _ _ h => h) (Or.inl ⟨by rfl, ?_⟩) (by assumption) ?_
      rotate_left 1
      · intro w hSw; (try dsimp only at hSw); go_simp; try with_reducible rfl
      try simp only [Act.put, List.setIfInBounds_toArray, List.set_cons_zero, List.set_cons_succ]
      refine wpAnyH_take (i := 4) (oi := { dst := some 54, op := Go.Op.move (Go.Operand.tmp 10), type := 4, pos := "law.go:77", after := #[{ on := 3, ground := Go.Ground.guard }], guard := some (3, true) }) (v := ?_) rfl (by kernel_rfl) (by kernel_rfl) (by kernel_rfl) (fun _ _ _ h => h) (Or.inl ⟨by rfl, ?_⟩) (by assumption) ?_
      rotate_left 1
      · intro w hSw; (try dsimp only at hSw); go_simp; try with_reducible rfl
      try simp only [Act.put, List.setIfInBounds_toArray, List.set_cons_zero, List.set_cons_succ]
      refine wpAnyH_take (i := 5) (oi := { dst := some 55, op := Go.Op.load 47 (Go.Operand.tmp 9), type := 47, pos := "law.go:77", after := #[{ on := 3, ground := Go.Ground.guard }], guard := some (3, true) }) (v := ?_) rfl (by kernel_rfl) (by kernel_rfl) (by kernel_rfl) (fun _ _ _ h => h) (Or.inl ⟨by rfl, ?_⟩) (by assumption) ?_
      rotate_left 1
      · intro w hSw; (try dsimp only at hSw); go_simp; try with_reducible rfl
      try simp only [Act.put, List.setIfInBounds_toArray, List.set_cons_zero, List.set_cons_succ]
      refine wpAnyH_take (i := 7) (oi := { dst := some 57, op := Go.Op.load 47 (Go.Operand.tmp 7), type := 47, pos := "law.go:77", after := #[{ on := 3, ground := Go.Ground.guard }], guard := some (3, true) }) (v := ?_) rfl (by kernel_rfl) (by kernel_rfl) (by kernel_rfl) (fun _ _ _ h => h) (Or.inl ⟨by rfl, ?_⟩) (by assumption) ?_
      rotate_left 1
      · intro w hSw; (try dsimp only at hSw); go_simp; try with_reducible rfl
      try simp only [Act.put, List.setIfInBounds_toArray, List.set_cons_zero, List.set_cons_succ]
      refine wpAnyH_ready (rs := [6]) (by kernel_rfl) (by simp) ?_
      refine AllReadyH.cons (o := { dst := some 56, op := Go.Op.call { callee := Go.Callee.value (Go.Operand.func 24), args := #[Go.Operand.tmp 55], argTypes := #[47] }, type := 3, pos := "law.go:77", after := #[{ on := 5, ground := Go.Ground.data }, { on := 3, ground := Go.Ground.chain }, { on := 3, ground := Go.Ground.guard }], guard := some (3, true) }) rfl (fun K hK => ?_) AllReadyH.nil
      go_simp
      (first
        | (go_at_call 23; with_reducible refine (HL.out.1 _ (And.left (by assumption))).mono ?_; rintro e w20 ⟨rfl, hj20⟩)
        | (go_at_call 23; with_reducible refine (HL.out.2.1 _ (And.left (by assumption))).mono ?_; rintro e w20 ⟨rfl, hj20⟩)
        | (go_at_call 23; with_reducible refine (HL.out.2.2.1 _ (And.left (by assumption))).mono ?_; rintro e w20 ⟨rfl, hj20⟩)
        | (go_at_call 23; with_reducible refine (HSO.out _ _ _ _ (by assumption) (And.left (by assumption))).mono ?_; rintro e w20 ⟨rfl, hj20⟩)
        | (go_at_call 24; with_reducible refine (HL.out.2.2.2.1 _ (And.left (by assumption))).mono ?_; rintro e w20 ⟨rfl, hj20⟩)
        | (go_at_call 24; with_reducible refine (HL.out.2.2.2.2.1 _ (And.left (by assumption))).mono ?_; rintro e w20 ⟨rfl, hj20⟩)
        | (go_at_call 24; with_reducible refine (HL.out.2.2.2.2.2.1 _ (And.left (by assumption))).mono ?_; rintro e w20 ⟨rfl, hj20⟩)
        | (go_at_call 25; with_reducible refine (HL.out.2.2.2.2.2.2.1 _ (And.left (by assumption))).mono ?_; rintro e w20 ⟨rfl, hj20⟩)
        | (go_at_call 25; with_reducible refine (HL.out.2.2.2.2.2.2.2.1 _ (And.left (by assumption))).mono ?_; rintro e w20 ⟨rfl, hj20⟩)
        | (go_at_call 18; with_reducible refine (HL.out.2.2.2.2.2.2.2.2.1 _ (by assumption)).mono ?_; rintro e w20 ⟨v20, rfl, hs20, hj20⟩)
        | (go_at_call 20; with_reducible refine (HL.out.2.2.2.2.2.2.2.2.2 _ (And.left (by assumption))).mono ?_; rintro e w20 ⟨rfl, hj20⟩))
      go_wp2_with fail
      refine hK.out _ _ ?_ (fun hHeld2 => ?_)
      · (try dsimp only); (first | assumption | exact JJ.all (by assumption) | exact JJ.all (JJ.drew (And.left (by assumption))) | exact JJ.all (JJ.drew (by assumption)))
      clear hK K hHeld1
      try simp only [Act.put, List.setIfInBounds_toArray, List.set_cons_zero, List.set_cons_succ]
      refine wpAnyH_ready (rs := [8]) (by kernel_rfl) (by simp) ?_
      refine AllReadyH.cons (o := { dst := some 58, op := Go.Op.call { callee := Go.Callee.value (Go.Operand.func 24), args := #[Go.Operand.tmp 57], argTypes := #[47] }, type := 3, pos := "law.go:77", after := #[{ on := 7, ground := Go.Ground.data }, { on := 6, ground := Go.Ground.chain }, { on := 3, ground := Go.Ground.guard }], guard := some (3, true) }) rfl (fun K hK => ?_) AllReadyH.nil
      go_simp
      (first
        | (go_at_call 23; with_reducible refine (HL.out.1 _ (And.left (by assumption))).mono ?_; rintro e w20 ⟨rfl, hj20⟩)
        | (go_at_call 23; with_reducible refine (HL.out.2.1 _ (And.left (by assumption))).mono ?_; rintro e w20 ⟨rfl, hj20⟩)
        | (go_at_call 23; with_reducible refine (HL.out.2.2.1 _ (And.left (by assumption))).mono ?_; rintro e w20 ⟨rfl, hj20⟩)
        | (go_at_call 23; with_reducible refine (HSO.out _ _ _ _ (by assumption) (And.left (by assumption))).mono ?_; rintro e w20 ⟨rfl, hj20⟩)
        | (go_at_call 24; with_reducible refine (HL.out.2.2.2.1 _ (And.left (by assumption))).mono ?_; rintro e w20 ⟨rfl, hj20⟩)
        | (go_at_call 24; with_reducible refine (HL.out.2.2.2.2.1 _ (And.left (by assumption))).mono ?_; rintro e w20 ⟨rfl, hj20⟩)
        | (go_at_call 24; with_reducible refine (HL.out.2.2.2.2.2.1 _ (And.left (by assumption))).mono ?_; rintro e w20 ⟨rfl, hj20⟩)
        | (go_at_call 25; with_reducible refine (HL.out.2.2.2.2.2.2.1 _ (And.left (by assumption))).mono ?_; rintro e w20 ⟨rfl, hj20⟩)
        | (go_at_call 25; with_reducible refine (HL.out.2.2.2.2.2.2.2.1 _ (And.left (by assumption))).mono ?_; rintro e w20 ⟨rfl, hj20⟩)
        | (go_at_call 18; with_reducible refine (HL.out.2.2.2.2.2.2.2.2.1 _ (by assumption)).mono ?_; rintro e w20 ⟨v20, rfl, hs20, hj20⟩)
        | (go_at_call 20; with_reducible refine (HL.out.2.2.2.2.2.2.2.2.2 _ (And.left (by assumption))).mono ?_; rintro e w20 ⟨rfl, hj20⟩))
      go_wp2_with fail
      refine hK.out _ _ ?_ (fun hHeld3 => ?_)
      · (try dsimp only); (first | assumption | exact JJ.all (by assumption) | exact JJ.all (JJ.drew (And.left (by assumption))) | exact JJ.all (JJ.drew (by assumption)))
      clear hK K hHeld2
      try simp only [Act.put, List.setIfInBounds_toArray, List.set_cons_zero, List.set_cons_succ]
      refine wpAnyH_take (i := 9) (oi := { dst := some 59, op := Go.Op.binOp Go.BinOp.gtr 3 (Go.Operand.tmp 56) (Go.Operand.tmp 58) 3, type := 4, pos := "law.go:77", after := #[{ on := 6, ground := Go.Ground.data }, { on := 8, ground := Go.Ground.data }, { on := 3, ground := Go.Ground.guard }], guard := some (3, true) }) (v := ?_) rfl (by kernel_rfl) (by kernel_rfl) (by kernel_rfl) (fun _ _ _ h => h) (Or.inl ⟨by rfl, ?_⟩) (by assumption) ?_
      rotate_left 1
      · intro w hSw; (try dsimp only at hSw); go_simp; try with_reducible rfl
      try simp only [Act.put, List.setIfInBounds_toArray, List.set_cons_zero, List.set_cons_succ]
      refine wpAnyH_take (i := 10) (oi := { dst := some 60, op := Go.Op.binOp Go.BinOp.eql 4 (Go.Operand.tmp 54) (Go.Operand.tmp 59) 4, type := 4, pos := "law.go:77", after := #[{ on := 4, ground := Go.Ground.data }, { on := 9, ground := Go.Ground.data }, { on := 3, ground := Go.Ground.guard }], guard := some (3, true) }) (v := ?_) rfl (by kernel_rfl) (by kernel_rfl) (by kernel_rfl) (fun _ _ _ h => h) (Or.inl ⟨by rfl, ?_⟩) (by assumption) ?_
      rotate_left 1
      · intro w hSw; (try dsimp only at hSw); go_simp; try with_reducible rfl
      try simp only [Act.put, List.setIfInBounds_toArray, List.set_cons_zero, List.set_cons_succ]
      refine wpAnyH_take (i := 11) (oi := { dst := some 61, op := Go.Op.pick (Go.Operand.tmp 53) (Go.Operand.tmp 60) (Go.Operand.const (Go.Value.bool false)), type := 4, pos := "law.go:77", after := #[{ on := 3, ground := Go.Ground.data }, { on := 10, ground := Go.Ground.data }], guard := none }) (v := ?_) rfl (by kernel_rfl) (by kernel_rfl) (by kernel_rfl) (fun _ _ _ h => h) (Or.inl ⟨by rfl, ?_⟩) (by assumption) ?_
      rotate_left 1
      · intro w hSw; (try dsimp only at hSw); go_simp; try with_reducible rfl
      try simp only [Act.put, List.setIfInBounds_toArray, List.set_cons_zero, List.set_cons_succ]
      refine wpAnyH_take (i := 12) (oi := { dst := some 62, op := Go.Op.move (Go.Operand.tmp 61), type := 4, pos := "law.go:77", after := #[{ on := 11, ground := Go.Ground.data }, { on := 8, ground := Go.Ground.chain }], guard := none }) (v := ?_) rfl (by kernel_rfl) (by kernel_rfl) (by kernel_rfl) (fun _ _ _ h => h) (Or.inl ⟨by rfl, ?_⟩) (by assumption) ?_
      rotate_left 1
      · intro w hSw; (try dsimp only at hSw); go_simp; try with_reducible rfl
      try simp only [Act.put, List.setIfInBounds_toArray, List.set_cons_zero, List.set_cons_succ]
      refine wpAnyH_take (i := 13) (oi := { dst := some 63, op := Go.Op.load 47 (Go.Operand.tmp 8), type := 47, pos := "law.go:77", after := #[{ on := 12, ground := Go.Ground.guard }], guard := some (12, true) }) (v := ?_) rfl (by kernel_rfl) (by kernel_rfl) (by kernel_rfl) (fun _ _ _ h => h) (Or.inl ⟨by rfl, ?_⟩) (by assumption) ?_
      rotate_left 1
      · intro w hSw; (try dsimp only at hSw); go_simp; try with_reducible rfl
      try simp only [Act.put, List.setIfInBounds_toArray, List.set_cons_zero, List.set_cons_succ]
      refine wpAnyH_ready (rs := [14]) (by kernel_rfl) (by simp) ?_
      refine AllReadyH.cons (o := { dst := some 64, op := Go.Op.call { callee := Go.Callee.value (Go.Operand.func 20), args := #[Go.Operand.tmp 9, Go.Operand.tmp 63], argTypes := #[47, 47] }, type := 4, pos := "law.go:77", after := #[{ on := 13, ground := Go.Ground.data }, { on := 12, ground := Go.Ground.chain }, { on := 12, ground := Go.Ground.guard }], guard := some (12, true) }) rfl (fun K hK => ?_) AllReadyH.nil
      go_simp
      (first
        | (go_at_call 23; with_reducible refine (HL.out.1 _ (And.left (by assumption))).mono ?_; rintro e w20 ⟨rfl, hj20⟩)
        | (go_at_call 23; with_reducible refine (HL.out.2.1 _ (And.left (by assumption))).mono ?_; rintro e w20 ⟨rfl, hj20⟩)
        | (go_at_call 23; with_reducible refine (HL.out.2.2.1 _ (And.left (by assumption))).mono ?_; rintro e w20 ⟨rfl, hj20⟩)
        | (go_at_call 23; with_reducible refine (HSO.out _ _ _ _ (by assumption) (And.left (by assumption))).mono ?_; rintro e w20 ⟨rfl, hj20⟩)
        | (go_at_call 24; with_reducible refine (HL.out.2.2.2.1 _ (And.left (by assumption))).mono ?_; rintro e w20 ⟨rfl, hj20⟩)
        | (go_at_call 24; with_reducible refine (HL.out.2.2.2.2.1 _ (And.left (by assumption))).mono ?_; rintro e w20 ⟨rfl, hj20⟩)
        | (go_at_call 24; with_reducible refine (HL.out.2.2.2.2.2.1 _ (And.left (by assumption))).mono ?_; rintro e w20 ⟨rfl, hj20⟩)
        | (go_at_call 25; with_reducible refine (HL.out.2.2.2.2.2.2.1 _ (And.left (by assumption))).mono ?_; rintro e w20 ⟨rfl, hj20⟩)
        | (go_at_call 25; with_reducible refine (HL.out.2.2.2.2.2.2.2.1 _ (And.left (by assumption))).mono ?_; rintro e w20 ⟨rfl, hj20⟩)
        | (go_at_call 18; with_reducible refine (HL.out.2.2.2.2.2.2.2.2.1 _ (by assumption)).mono ?_; rintro e w20 ⟨v20, rfl, hs20, hj20⟩)
        | (go_at_call 20; with_reducible refine (HL.out.2.2.2.2.2.2.2.2.2 _ (And.left (by assumption))).mono ?_; rintro e w20 ⟨rfl, hj20⟩))
      go_wp2_with fail
      refine hK.out _ _ ?_ (fun hHeld4 => ?_)
      · (try dsimp only); (first | assumption | exact JJ.all (by assumption) | exact JJ.all (JJ.drew (And.left (by assumption))) | exact JJ.all (JJ.drew (by assumption)))
      clear hK K hHeld3
      try simp only [Act.put, List.setIfInBounds_toArray, List.set_cons_zero, List.set_cons_succ]
      refine wpAnyH_take (i := 15) (oi := { dst := some 65, op := Go.Op.unOp Go.UnOp.not 4 (Go.Operand.tmp 64), type := 4, pos := "law.go:77", after := #[{ on := 14, ground := Go.Ground.data }, { on := 12, ground := Go.Ground.guard }], guard := some (12, true) }) (v := ?_) rfl (by kernel_rfl) (by kernel_rfl) (by kernel_rfl) (fun _ _ _ h => h) (Or.inl ⟨by rfl, ?_⟩) (by assumption) ?_
      rotate_left 1
      · intro w hSw; (try dsimp only at hSw); go_simp; try with_reducible rfl
      try simp only [Act.put, List.setIfInBounds_toArray, List.set_cons_zero, List.set_cons_succ]
      refine wpAnyH_take (i := 16) (oi := { dst := some 66, op := Go.Op.pick (Go.Operand.tmp 62) (Go.Operand.tmp 65) (Go.Operand.const (Go.Value.bool false)), type := 4, pos := "law.go:77", after := #[{ on := 12, ground := Go.Ground.data }, { on := 15, ground := Go.Ground.data }], guard := none }) (v := ?_) rfl (by kernel_rfl) (by kernel_rfl) (by kernel_rfl) (fun _ _ _ h => h) (Or.inl ⟨by rfl, ?_⟩) (by assumption) ?_
      rotate_left 1
      · intro w hSw; (try dsimp only at hSw); go_simp; try with_reducible rfl
      try simp only [Act.put, List.setIfInBounds_toArray, List.set_cons_zero, List.set_cons_succ]
      refine wpAnyH_take (i := 17) (oi := { dst := some 67, op := Go.Op.move (Go.Operand.tmp 66), type := 4, pos := "law.go:77", after := #[{ on := 16, ground := Go.Ground.data }, { on := 14, ground := Go.Ground.chain }], guard := none }) (v := ?_) rfl (by kernel_rfl) (by kernel_rfl) (by kernel_rfl) (fun _ _ _ h => h) (Or.inl ⟨by rfl, ?_⟩) (by assumption) ?_
      rotate_left 1
      · intro w hSw; (try dsimp only at hSw); go_simp; try with_reducible rfl
      try simp only [Act.put, List.setIfInBounds_toArray, List.set_cons_zero, List.set_cons_succ]
      refine wpAnyH_take (i := 18) (oi := { dst := some 68, op := Go.Op.load 47 (Go.Operand.tmp 7), type := 47, pos := "law.go:77", after := #[{ on := 17, ground := Go.Ground.guard }], guard := some (17, true) }) (v := ?_) rfl (by kernel_rfl) (by kernel_rfl) (by kernel_rfl) (fun _ _ _ h => h) (Or.inl ⟨by rfl, ?_⟩) (by assumption) ?_
      rotate_left 1
      · intro w hSw; (try dsimp only at hSw); go_simp; try with_reducible rfl
      try simp only [Act.put, List.setIfInBounds_toArray, List.set_cons_zero, List.set_cons_succ]
      refine wpAnyH_take (i := 19) (oi := { dst := some 69, op := Go.Op.move (Go.Operand.tmp 0), type := 45, pos := "law.go:77", after := #[{ on := 17, ground := Go.Ground.guard }], guard := some (17, true) }) (v := ?_) rfl (by kernel_rfl) (by kernel_rfl) (by kernel_rfl) (fun _ _ _ h => h) (Or.inl ⟨by rfl, ?_⟩) (by assumption) ?_
      rotate_left 1
      · intro w hSw; (try dsimp only at hSw); go_simp; try with_reducible rfl
      try simp only [Act.put, List.setIfInBounds_toArray, List.set_cons_zero, List.set_cons_succ]
      refine wpAnyH_ready (rs := [20]) (by kernel_rfl) (by simp) ?_
      refine AllReadyH.cons (o := { dst := some 70, op := Go.Op.call { callee := Go.Callee.value (Go.Operand.func 18), args := #[Go.Operand.tmp 69], argTypes := #[45] }, type := 47, pos := "law.go:77", after := #[{ on := 19, ground := Go.Ground.data }, { on := 17, ground := Go.Ground.chain }, { on := 17, ground := Go.Ground.guard }], guard := some (17, true) }) rfl (fun K hK => ?_) AllReadyH.nil
      go_simp
      (first
        | (go_at_call 23; with_reducible refine (HL.out.1 _ (And.left (by assumption))).mono ?_; rintro e w20 ⟨rfl, hj20⟩)
        | (go_at_call 23; with_reducible refine (HL.out.2.1 _ (And.left (by assumption))).mono ?_; rintro e w20 ⟨rfl, hj20⟩)
        | (go_at_call 23; with_reducible refine (HL.out.2.2.1 _ (And.left (by assumption))).mono ?_; rintro e w20 ⟨rfl, hj20⟩)
        | (go_at_call 23; with_reducible refine (HSO.out _ _ _ _ (by assumption) (And.left (by assumption))).mono ?_; rintro e w20 ⟨rfl, hj20⟩)
        | (go_at_call 24; with_reducible refine (HL.out.2.2.2.1 _ (And.left (by assumption))).mono ?_; rintro e w20 ⟨rfl, hj20⟩)
        | (go_at_call 24; with_reducible refine (HL.out.2.2.2.2.1 _ (And.left (by assumption))).mono ?_; rintro e w20 ⟨rfl, hj20⟩)
        | (go_at_call 24; with_reducible refine (HL.out.2.2.2.2.2.1 _ (And.left (by assumption))).mono ?_; rintro e w20 ⟨rfl, hj20⟩)
        | (go_at_call 25; with_reducible refine (HL.out.2.2.2.2.2.2.1 _ (And.left (by assumption))).mono ?_; rintro e w20 ⟨rfl, hj20⟩)
        | (go_at_call 25; with_reducible refine (HL.out.2.2.2.2.2.2.2.1 _ (And.left (by assumption))).mono ?_; rintro e w20 ⟨rfl, hj20⟩)
        | (go_at_call 18; with_reducible refine (HL.out.2.2.2.2.2.2.2.2.1 _ (by assumption)).mono ?_; rintro e w20 ⟨v20, rfl, hs20, hj20⟩)
        | (go_at_call 20; with_reducible refine (HL.out.2.2.2.2.2.2.2.2.2 _ (And.left (by assumption))).mono ?_; rintro e w20 ⟨rfl, hj20⟩))
      go_wp2_with fail
      refine hK.out _ _ ?_ (fun hHeld5 => ?_)
      · (try dsimp only); (first | assumption | exact JJ.all (by assumption) | exact JJ.all (JJ.drew (And.left (by assumption))) | exact JJ.all (JJ.drew (by assumption)))
      clear hK K hHeld4
      try simp only [Act.put, List.setIfInBounds_toArray, List.set_cons_zero, List.set_cons_succ]
      refine wpAnyH_ready (rs := [21]) (by kernel_rfl) (by simp) ?_
      refine AllReadyH.cons (o := { dst := some 71, op := Go.Op.call { callee := Go.Callee.value (Go.Operand.func 23), args := #[Go.Operand.tmp 68, Go.Operand.tmp 70], argTypes := #[47, 47] }, type := 4, pos := "law.go:77", after := #[{ on := 18, ground := Go.Ground.data }, { on := 20, ground := Go.Ground.data }, { on := 20, ground := Go.Ground.chain }, { on := 17, ground := Go.Ground.guard }], guard := some (17, true) }) rfl (fun K hK => ?_) AllReadyH.nil
      go_simp
      (first
        | (go_at_call 23; with_reducible refine (HL.out.1 _ (And.left (by assumption))).mono ?_; rintro e w20 ⟨rfl, hj20⟩)
        | (go_at_call 23; with_reducible refine (HL.out.2.1 _ (And.left (by assumption))).mono ?_; rintro e w20 ⟨rfl, hj20⟩)
        | (go_at_call 23; with_reducible refine (HL.out.2.2.1 _ (And.left (by assumption))).mono ?_; rintro e w20 ⟨rfl, hj20⟩)
        | (go_at_call 23; with_reducible refine (HSO.out _ _ _ _ (by assumption) (And.left (by assumption))).mono ?_; rintro e w20 ⟨rfl, hj20⟩)
        | (go_at_call 24; with_reducible refine (HL.out.2.2.2.1 _ (And.left (by assumption))).mono ?_; rintro e w20 ⟨rfl, hj20⟩)
        | (go_at_call 24; with_reducible refine (HL.out.2.2.2.2.1 _ (And.left (by assumption))).mono ?_; rintro e w20 ⟨rfl, hj20⟩)
        | (go_at_call 24; with_reducible refine (HL.out.2.2.2.2.2.1 _ (And.left (by assumption))).mono ?_; rintro e w20 ⟨rfl, hj20⟩)
        | (go_at_call 25; with_reducible refine (HL.out.2.2.2.2.2.2.1 _ (And.left (by assumption))).mono ?_; rintro e w20 ⟨rfl, hj20⟩)
        | (go_at_call 25; with_reducible refine (HL.out.2.2.2.2.2.2.2.1 _ (And.left (by assumption))).mono ?_; rintro e w20 ⟨rfl, hj20⟩)
        | (go_at_call 18; with_reducible refine (HL.out.2.2.2.2.2.2.2.2.1 _ (by assumption)).mono ?_; rintro e w20 ⟨v20, rfl, hs20, hj20⟩)
        | (go_at_call 20; with_reducible refine (HL.out.2.2.2.2.2.2.2.2.2 _ (And.left (by assumption))).mono ?_; rintro e w20 ⟨rfl, hj20⟩))
      go_wp2_with fail
      refine hK.out _ _ ?_ (fun hHeld6 => ?_)
      · (try dsimp only); (first | assumption | exact JJ.all (by assumption) | exact JJ.all (JJ.drew (And.left (by assumption))) | exact JJ.all (JJ.drew (by assumption)))
      clear hK K hHeld5
      try simp only [Act.put, List.setIfInBounds_toArray, List.set_cons_zero, List.set_cons_succ]
      refine wpAnyH_take (i := 22) (oi := { dst := some 72, op := Go.Op.pick (Go.Operand.tmp 67) (Go.Operand.tmp 71) (Go.Operand.const (Go.Value.bool false)), type := 4, pos := "law.go:77", after := #[{ on := 17, ground := Go.Ground.data }, { on := 21, ground := Go.Ground.data }], guard := none }) (v := ?_) rfl (by kernel_rfl) (by kernel_rfl) (by kernel_rfl) (fun _ _ _ h => h) (Or.inl ⟨by rfl, ?_⟩) (by assumption) ?_
      rotate_left 1
      · intro w hSw; (try dsimp only at hSw); go_simp; try with_reducible rfl
      try simp only [Act.put, List.setIfInBounds_toArray, List.set_cons_zero, List.set_cons_succ]
      refine wpAnyH_take (i := 23) (oi := { dst := some 73, op := Go.Op.move (Go.Operand.tmp 72), type := 4, pos := "law.go:77", after := #[{ on := 22, ground := Go.Ground.data }, { on := 21, ground := Go.Ground.chain }], guard := none }) (v := ?_) rfl (by kernel_rfl) (by kernel_rfl) (by kernel_rfl) (fun _ _ _ h => h) (Or.inl ⟨by rfl, ?_⟩) (by assumption) ?_
      rotate_left 1
      · intro w hSw; (try dsimp only at hSw); go_simp; try with_reducible rfl
      try simp only [Act.put, List.setIfInBounds_toArray, List.set_cons_zero, List.set_cons_succ]
      refine wpAnyH_take (i := 24) (oi := { dst := some 74, op := Go.Op.load 47 (Go.Operand.tmp 12), type := 47, pos := "law.go:77", after := #[{ on := 23, ground := Go.Ground.guard }], guard := some (23, true) }) (v := ?_) rfl (by kernel_rfl) (by kernel_rfl) (by kernel_rfl) (fun _ _ _ h => h) (Or.inl ⟨by rfl, ?_⟩) (by assumption) ?_
      rotate_left 1
      · intro w hSw; (try dsimp only at hSw); go_simp; try with_reducible rfl
      try simp only [Act.put, List.setIfInBounds_toArray, List.set_cons_zero, List.set_cons_succ]
      refine wpAnyH_take (i := 25) (oi := { dst := some 75, op := Go.Op.load 47 (Go.Operand.tmp 11), type := 47, pos := "law.go:77", after := #[{ on := 23, ground := Go.Ground.guard }], guard := some (23, true) }) (v := ?_) rfl (by kernel_rfl) (by kernel_rfl) (by kernel_rfl) (fun _ _ _ h => h) (Or.inl ⟨by rfl, ?_⟩) (by assumption) ?_
      rotate_left 1
      · intro w hSw; (try dsimp only at hSw); go_simp; try with_reducible rfl
      try simp only [Act.put, List.setIfInBounds_toArray, List.set_cons_zero, List.set_cons_succ]
      refine wpAnyH_take (i := 27) (oi := { dst := some 77, op := Go.Op.move (Go.Operand.tmp 13), type := 4, pos := "law.go:77", after := #[{ on := 23, ground := Go.Ground.guard }], guard := some (23, true) }) (v := ?_) rfl (by kernel_rfl) (by kernel_rfl) (by kernel_rfl) (fun _ _ _ h => h) (Or.inl ⟨by rfl, ?_⟩) (by assumption) ?_
      rotate_left 1
      · intro w hSw; (try dsimp only at hSw); go_simp; try with_reducible rfl
      try simp only [Act.put, List.setIfInBounds_toArray, List.set_cons_zero, List.set_cons_succ]
      refine wpAnyH_take (i := 28) (oi := { dst := some 78, op := Go.Op.unOp Go.UnOp.not 4 (Go.Operand.tmp 77), type := 4, pos := "law.go:77", after := #[{ on := 27, ground := Go.Ground.data }, { on := 23, ground := Go.Ground.guard }], guard := some (23, true) }) (v := ?_) rfl (by kernel_rfl) (by kernel_rfl) (by kernel_rfl) (fun _ _ _ h => h) (Or.inl ⟨by rfl, ?_⟩) (by assumption) ?_
      rotate_left 1
      · intro w hSw; (try dsimp only at hSw); go_simp; try with_reducible rfl
      try simp only [Act.put, List.setIfInBounds_toArray, List.set_cons_zero, List.set_cons_succ]
      refine wpAnyH_ready (rs := [26]) (by kernel_rfl) (by simp) ?_
      refine AllReadyH.cons (o := { dst := some 76, op := Go.Op.call { callee := Go.Callee.value (Go.Operand.func 23), args := #[Go.Operand.tmp 74, Go.Operand.tmp 75], argTypes := #[47, 47] }, type := 4, pos := "law.go:77", after := #[{ on := 24, ground := Go.Ground.data }, { on := 25, ground := Go.Ground.data }, { on := 23, ground := Go.Ground.chain }, { on := 23, ground := Go.Ground.guard }], guard := some (23, true) }) rfl (fun K hK => ?_) AllReadyH.nil
      go_simp
      (first
        | (go_at_call 23; with_reducible refine (HL.out.1 _ (And.left (by assumption))).mono ?_; rintro e w20 ⟨rfl, hj20⟩)
        | (go_at_call 23; with_reducible refine (HL.out.2.1 _ (And.left (by assumption))).mono ?_; rintro e w20 ⟨rfl, hj20⟩)
        | (go_at_call 23; with_reducible refine (HL.out.2.2.1 _ (And.left (by assumption))).mono ?_; rintro e w20 ⟨rfl, hj20⟩)
        | (go_at_call 23; with_reducible refine (HSO.out _ _ _ _ (by assumption) (And.left (by assumption))).mono ?_; rintro e w20 ⟨rfl, hj20⟩)
        | (go_at_call 24; with_reducible refine (HL.out.2.2.2.1 _ (And.left (by assumption))).mono ?_; rintro e w20 ⟨rfl, hj20⟩)
        | (go_at_call 24; with_reducible refine (HL.out.2.2.2.2.1 _ (And.left (by assumption))).mono ?_; rintro e w20 ⟨rfl, hj20⟩)
        | (go_at_call 24; with_reducible refine (HL.out.2.2.2.2.2.1 _ (And.left (by assumption))).mono ?_; rintro e w20 ⟨rfl, hj20⟩)
        | (go_at_call 25; with_reducible refine (HL.out.2.2.2.2.2.2.1 _ (And.left (by assumption))).mono ?_; rintro e w20 ⟨rfl, hj20⟩)
        | (go_at_call 25; with_reducible refine (HL.out.2.2.2.2.2.2.2.1 _ (And.left (by assumption))).mono ?_; rintro e w20 ⟨rfl, hj20⟩)
        | (go_at_call 18; with_reducible refine (HL.out.2.2.2.2.2.2.2.2.1 _ (by assumption)).mono ?_; rintro e w20 ⟨v20, rfl, hs20, hj20⟩)
        | (go_at_call 20; with_reducible refine (HL.out.2.2.2.2.2.2.2.2.2 _ (And.left (by assumption))).mono ?_; rintro e w20 ⟨rfl, hj20⟩))
      go_wp2_with fail
      refine hK.out _ _ ?_ (fun hHeld7 => ?_)
      · (try dsimp only); (first | assumption | exact JJ.all (by assumption) | exact JJ.all (JJ.drew (And.left (by assumption))) | exact JJ.all (JJ.drew (by assumption)))
      clear hK K hHeld6
      try simp only [Act.put, List.setIfInBounds_toArray, List.set_cons_zero, List.set_cons_succ]
      refine wpAnyH_take (i := 29) (oi := { dst := some 79, op := Go.Op.binOp Go.BinOp.eql 4 (Go.Operand.tmp 76) (Go.Operand.tmp 78) 4, type := 4, pos := "law.go:77", after := #[{ on := 26, ground := Go.Ground.data }, { on := 28, ground := Go.Ground.data }, { on := 23, ground := Go.Ground.guard }], guard := some (23, true) }) (v := ?_) rfl (by kernel_rfl) (by kernel_rfl) (by kernel_rfl) (fun _ _ _ h => h) (Or.inl ⟨by rfl, ?_⟩) (by assumption) ?_
      rotate_left 1
      · intro w hSw; (try dsimp only at hSw); go_simp; try with_reducible rfl
      try simp only [Act.put, List.setIfInBounds_toArray, List.set_cons_zero, List.set_cons_succ]
      refine wpAnyH_take (i := 30) (oi := { dst := some 80, op := Go.Op.pick (Go.Operand.tmp 73) (Go.Operand.tmp 79) (Go.Operand.const (Go.Value.bool false)), type := 4, pos := "law.go:77", after := #[{ on := 23, ground := Go.Ground.data }, { on := 29, ground := Go.Ground.data }], guard := none }) (v := ?_) rfl (by kernel_rfl) (by kernel_rfl) (by kernel_rfl) (fun _ _ _ h => h) (Or.inl ⟨by rfl, ?_⟩) (by assumption) ?_
      rotate_left 1
      · intro w hSw; (try dsimp only at hSw); go_simp; try with_reducible rfl
      try simp only [Act.put, List.setIfInBounds_toArray, List.set_cons_zero, List.set_cons_succ]
      refine wpAnyH_take (i := 31) (oi := { dst := some 81, op := Go.Op.move (Go.Operand.tmp 80), type := 4, pos := "law.go:77", after := #[{ on := 30, ground := Go.Ground.data }, { on := 26, ground := Go.Ground.chain }], guard := none }) (v := ?_) rfl (by kernel_rfl) (by kernel_rfl) (by kernel_rfl) (fun _ _ _ h => h) (Or.inl ⟨by rfl, ?_⟩) (by assumption) ?_
      rotate_left 1
      · intro w hSw; (try dsimp only at hSw); go_simp; try with_reducible rfl
      try simp only [Act.put, List.setIfInBounds_toArray, List.set_cons_zero, List.set_cons_succ]
      refine wpAnyH_take (i := 32) (oi := { dst := some 82, op := Go.Op.load 47 (Go.Operand.tmp 12), type := 47, pos := "law.go:77", after := #[{ on := 31, ground := Go.Ground.guard }], guard := some (31, true) }) (v := ?_) rfl (by kernel_rfl) (by kernel_rfl) (by kernel_rfl) (fun _ _ _ h => h) (Or.inl ⟨by rfl, ?_⟩) (by assumption) ?_
      rotate_left 1
      · intro w hSw; (try dsimp only at hSw); go_simp; try with_reducible rfl
      try simp only [Act.put, List.setIfInBounds_toArray, List.set_cons_zero, List.set_cons_succ]
      refine wpAnyH_take (i := 33) (oi := { dst := some 83, op := Go.Op.move (Go.Operand.tmp 2), type := 9, pos := "law.go:77", after := #[{ on := 31, ground := Go.Ground.guard }], guard := some (31, true) }) (v := ?_) rfl (by kernel_rfl) (by kernel_rfl) (by kernel_rfl) (fun _ _ _ h => h) (Or.inl ⟨by rfl, ?_⟩) (by assumption) ?_
      rotate_left 1
      · intro w hSw; (try dsimp only at hSw); go_simp; try with_reducible rfl
      try simp only [Act.put, List.setIfInBounds_toArray, List.set_cons_zero, List.set_cons_succ]
      refine wpAnyH_ready (rs := [34]) (by kernel_rfl) (by simp) ?_
      refine AllReadyH.cons (o := { dst := some 84, op := Go.Op.call { callee := Go.Callee.value (Go.Operand.func 25), args := #[Go.Operand.tmp 82, Go.Operand.tmp 83], argTypes := #[47, 9] }, type := 4, pos := "law.go:77", after := #[{ on := 32, ground := Go.Ground.data }, { on := 33, ground := Go.Ground.data }, { on := 31, ground := Go.Ground.chain }, { on := 31, ground := Go.Ground.guard }], guard := some (31, true) }) rfl (fun K hK => ?_) AllReadyH.nil
      go_simp
      (first
        | (go_at_call 23; with_reducible refine (HL.out.1 _ (And.left (by assumption))).mono ?_; rintro e w20 ⟨rfl, hj20⟩)
        | (go_at_call 23; with_reducible refine (HL.out.2.1 _ (And.left (by assumption))).mono ?_; rintro e w20 ⟨rfl, hj20⟩)
        | (go_at_call 23; with_reducible refine (HL.out.2.2.1 _ (And.left (by assumption))).mono ?_; rintro e w20 ⟨rfl, hj20⟩)
        | (go_at_call 23; with_reducible refine (HSO.out _ _ _ _ (by assumption) (And.left (by assumption))).mono ?_; rintro e w20 ⟨rfl, hj20⟩)
        | (go_at_call 24; with_reducible refine (HL.out.2.2.2.1 _ (And.left (by assumption))).mono ?_; rintro e w20 ⟨rfl, hj20⟩)
        | (go_at_call 24; with_reducible refine (HL.out.2.2.2.2.1 _ (And.left (by assumption))).mono ?_; rintro e w20 ⟨rfl, hj20⟩)
        | (go_at_call 24; with_reducible refine (HL.out.2.2.2.2.2.1 _ (And.left (by assumption))).mono ?_; rintro e w20 ⟨rfl, hj20⟩)
        | (go_at_call 25; with_reducible refine (HL.out.2.2.2.2.2.2.1 _ (And.left (by assumption))).mono ?_; rintro e w20 ⟨rfl, hj20⟩)
        | (go_at_call 25; with_reducible refine (HL.out.2.2.2.2.2.2.2.1 _ (And.left (by assumption))).mono ?_; rintro e w20 ⟨rfl, hj20⟩)
        | (go_at_call 18; with_reducible refine (HL.out.2.2.2.2.2.2.2.2.1 _ (by assumption)).mono ?_; rintro e w20 ⟨v20, rfl, hs20, hj20⟩)
        | (go_at_call 20; with_reducible refine (HL.out.2.2.2.2.2.2.2.2.2 _ (And.left (by assumption))).mono ?_; rintro e w20 ⟨rfl, hj20⟩))
      go_wp2_with fail
      refine hK.out _ _ ?_ (fun hHeld8 => ?_)
      · (try dsimp only); (first | assumption | exact JJ.all (by assumption) | exact JJ.all (JJ.drew (And.left (by assumption))) | exact JJ.all (JJ.drew (by assumption)))
      clear hK K hHeld7
      try simp only [Act.put, List.setIfInBounds_toArray, List.set_cons_zero, List.set_cons_succ]
      refine wpAnyH_take (i := 35) (oi := { dst := some 85, op := Go.Op.pick (Go.Operand.tmp 81) (Go.Operand.tmp 84) (Go.Operand.const (Go.Value.bool false)), type := 4, pos := "law.go:77", after := #[{ on := 31, ground := Go.Ground.data }, { on := 34, ground := Go.Ground.data }], guard := none }) (v := ?_) rfl (by kernel_rfl) (by kernel_rfl) (by kernel_rfl) (fun _ _ _ h => h) (Or.inl ⟨by rfl, ?_⟩) (by assumption) ?_
      rotate_left 1
      · intro w hSw; (try dsimp only at hSw); go_simp; try with_reducible rfl
      try simp only [Act.put, List.setIfInBounds_toArray, List.set_cons_zero, List.set_cons_succ]
      refine wpAnyH_take (i := 36) (oi := { dst := some 86, op := Go.Op.move (Go.Operand.tmp 85), type := 4, pos := "law.go:77", after := #[{ on := 35, ground := Go.Ground.data }, { on := 34, ground := Go.Ground.chain }], guard := none }) (v := ?_) rfl (by kernel_rfl) (by kernel_rfl) (by kernel_rfl) (fun _ _ _ h => h) (Or.inl ⟨by rfl, ?_⟩) (by assumption) ?_
      rotate_left 1
      · intro w hSw; (try dsimp only at hSw); go_simp; try with_reducible rfl
      try simp only [Act.put, List.setIfInBounds_toArray, List.set_cons_zero, List.set_cons_succ]
      refine wpAnyH_take (i := 37) (oi := { dst := some 87, op := Go.Op.load 47 (Go.Operand.tmp 11), type := 47, pos := "law.go:77", after := #[{ on := 36, ground := Go.Ground.guard }], guard := some (36, true) }) (v := ?_) rfl (by kernel_rfl) (by kernel_rfl) (by kernel_rfl) (fun _ _ _ h => h) (Or.inl ⟨by rfl, ?_⟩) (by assumption) ?_
      rotate_left 1
      · intro w hSw; (try dsimp only at hSw); go_simp; try with_reducible rfl
      try simp only [Act.put, List.setIfInBounds_toArray, List.set_cons_zero, List.set_cons_succ]
      refine wpAnyH_take (i := 38) (oi := { dst := some 88, op := Go.Op.move (Go.Operand.tmp 2), type := 9, pos := "law.go:77", after := #[{ on := 36, ground := Go.Ground.guard }], guard := some (36, true) }) (v := ?_) rfl (by kernel_rfl) (by kernel_rfl) (by kernel_rfl) (fun _ _ _ h => h) (Or.inl ⟨by rfl, ?_⟩) (by assumption) ?_
      rotate_left 1
      · intro w hSw; (try dsimp only at hSw); go_simp; try with_reducible rfl
      try simp only [Act.put, List.setIfInBounds_toArray, List.set_cons_zero, List.set_cons_succ]
      refine wpAnyH_take (i := 40) (oi := { dst := some 90, op := Go.Op.move (Go.Operand.tmp 13), type := 4, pos := "law.go:77", after := #[{ on := 36, ground := Go.Ground.guard }], guard := some (36, true) }) (v := ?_) rfl (by kernel_rfl) (by kernel_rfl) (by kernel_rfl) (fun _ _ _ h => h) (Or.inl ⟨by rfl, ?_⟩) (by assumption) ?_
      rotate_left 1
      · intro w hSw; (try dsimp only at hSw); go_simp; try with_reducible rfl
      try simp only [Act.put, List.setIfInBounds_toArray, List.set_cons_zero, List.set_cons_succ]
      refine wpAnyH_take (i := 41) (oi := { dst := some 91, op := Go.Op.unOp Go.UnOp.not 4 (Go.Operand.tmp 90), type := 4, pos := "law.go:77", after := #[{ on := 40, ground := Go.Ground.data }, { on := 36, ground := Go.Ground.guard }], guard := some (36, true) }) (v := ?_) rfl (by kernel_rfl) (by kernel_rfl) (by kernel_rfl) (fun _ _ _ h => h) (Or.inl ⟨by rfl, ?_⟩) (by assumption) ?_
      rotate_left 1
      · intro w hSw; (try dsimp only at hSw); go_simp; try with_reducible rfl
      try simp only [Act.put, List.setIfInBounds_toArray, List.set_cons_zero, List.set_cons_succ]
      refine wpAnyH_ready (rs := [39]) (by kernel_rfl) (by simp) ?_
      refine AllReadyH.cons (o := { dst := some 89, op := Go.Op.call { callee := Go.Callee.value (Go.Operand.func 25), args := #[Go.Operand.tmp 87, Go.Operand.tmp 88], argTypes := #[47, 9] }, type := 4, pos := "law.go:77", after := #[{ on := 37, ground := Go.Ground.data }, { on := 38, ground := Go.Ground.data }, { on := 36, ground := Go.Ground.chain }, { on := 36, ground := Go.Ground.guard }], guard := some (36, true) }) rfl (fun K hK => ?_) AllReadyH.nil
      go_simp
      (first
        | (go_at_call 23; with_reducible refine (HL.out.1 _ (And.left (by assumption))).mono ?_; rintro e w20 ⟨rfl, hj20⟩)
        | (go_at_call 23; with_reducible refine (HL.out.2.1 _ (And.left (by assumption))).mono ?_; rintro e w20 ⟨rfl, hj20⟩)
        | (go_at_call 23; with_reducible refine (HL.out.2.2.1 _ (And.left (by assumption))).mono ?_; rintro e w20 ⟨rfl, hj20⟩)
        | (go_at_call 23; with_reducible refine (HSO.out _ _ _ _ (by assumption) (And.left (by assumption))).mono ?_; rintro e w20 ⟨rfl, hj20⟩)
        | (go_at_call 24; with_reducible refine (HL.out.2.2.2.1 _ (And.left (by assumption))).mono ?_; rintro e w20 ⟨rfl, hj20⟩)
        | (go_at_call 24; with_reducible refine (HL.out.2.2.2.2.1 _ (And.left (by assumption))).mono ?_; rintro e w20 ⟨rfl, hj20⟩)
        | (go_at_call 24; with_reducible refine (HL.out.2.2.2.2.2.1 _ (And.left (by assumption))).mono ?_; rintro e w20 ⟨rfl, hj20⟩)
        | (go_at_call 25; with_reducible refine (HL.out.2.2.2.2.2.2.1 _ (And.left (by assumption))).mono ?_; rintro e w20 ⟨rfl, hj20⟩)
        | (go_at_call 25; with_reducible refine (HL.out.2.2.2.2.2.2.2.1 _ (And.left (by assumption))).mono ?_; rintro e w20 ⟨rfl, hj20⟩)
        | (go_at_call 18; with_reducible refine (HL.out.2.2.2.2.2.2.2.2.1 _ (by assumption)).mono ?_; rintro e w20 ⟨v20, rfl, hs20, hj20⟩)
        | (go_at_call 20; with_reducible refine (HL.out.2.2.2.2.2.2.2.2.2 _ (And.left (by assumption))).mono ?_; rintro e w20 ⟨rfl, hj20⟩))
      go_wp2_with fail
      refine hK.out _ _ ?_ (fun hHeld9 => ?_)
      · (try dsimp only); (first | assumption | exact JJ.all (by assumption) | exact JJ.all (JJ.drew (And.left (by assumption))) | exact JJ.all (JJ.drew (by assumption)))
      clear hK K hHeld8
      try simp only [Act.put, List.setIfInBounds_toArray, List.set_cons_zero, List.set_cons_succ]
      refine wpAnyH_take (i := 42) (oi := { dst := some 92, op := Go.Op.binOp Go.BinOp.eql 4 (Go.Operand.tmp 89) (Go.Operand.tmp 91) 4, type := 4, pos := "law.go:77", after := #[{ on := 39, ground := Go.Ground.data }, { on := 41, ground := Go.Ground.data }, { on := 36, ground := Go.Ground.guard }], guard := some (36, true) }) (v := ?_) rfl (by kernel_rfl) (by kernel_rfl) (by kernel_rfl) (fun _ _ _ h => h) (Or.inl ⟨by rfl, ?_⟩) (by assumption) ?_
      rotate_left 1
      · intro w hSw; (try dsimp only at hSw); go_simp; try with_reducible rfl
      try simp only [Act.put, List.setIfInBounds_toArray, List.set_cons_zero, List.set_cons_succ]
      refine wpAnyH_take (i := 43) (oi := { dst := some 93, op := Go.Op.pick (Go.Operand.tmp 86) (Go.Operand.tmp 92) (Go.Operand.const (Go.Value.bool false)), type := 4, pos := "law.go:77", after := #[{ on := 36, ground := Go.Ground.data }, { on := 42, ground := Go.Ground.data }], guard := none }) (v := ?_) rfl (by kernel_rfl) (by kernel_rfl) (by kernel_rfl) (fun _ _ _ h => h) (Or.inl ⟨by rfl, ?_⟩) (by assumption) ?_
      rotate_left 1
      · intro w hSw; (try dsimp only at hSw); go_simp; try with_reducible rfl
      try simp only [Act.put, List.setIfInBounds_toArray, List.set_cons_zero, List.set_cons_succ]
      refine wpAnyH_take (i := 44) (oi := { dst := some 94, op := Go.Op.move (Go.Operand.tmp 93), type := 4, pos := "law.go:77", after := #[{ on := 43, ground := Go.Ground.data }, { on := 39, ground := Go.Ground.chain }], guard := none }) (v := ?_) rfl (by kernel_rfl) (by kernel_rfl) (by kernel_rfl) (fun _ _ _ h => h) (Or.inl ⟨by rfl, ?_⟩) (by assumption) ?_
      rotate_left 1
      · intro w hSw; (try dsimp only at hSw); go_simp; try with_reducible rfl
      try simp only [Act.put, List.setIfInBounds_toArray, List.set_cons_zero, List.set_cons_succ]
      refine wpAnyH_take (i := 45) (oi := { dst := some 95, op := Go.Op.load 47 (Go.Operand.tmp 7), type := 47, pos := "law.go:77", after := #[{ on := 44, ground := Go.Ground.guard }], guard := some (44, true) }) (v := ?_) rfl (by kernel_rfl) (by kernel_rfl) (by kernel_rfl) (fun _ _ _ h => h) (Or.inl ⟨by rfl, ?_⟩) (by assumption) ?_
      rotate_left 1
      · intro w hSw; (try dsimp only at hSw); go_simp; try with_reducible rfl
      try simp only [Act.put, List.setIfInBounds_toArray, List.set_cons_zero, List.set_cons_succ]
      refine wpAnyH_take (i := 46) (oi := { dst := some 96, op := Go.Op.load 47 (Go.Operand.tmp 8), type := 47, pos := "law.go:77", after := #[{ on := 44, ground := Go.Ground.guard }], guard := some (44, true) }) (v := ?_) rfl (by kernel_rfl) (by kernel_rfl) (by kernel_rfl) (fun _ _ _ h => h) (Or.inl ⟨by rfl, ?_⟩) (by assumption) ?_
      rotate_left 1
      · intro w hSw; (try dsimp only at hSw); go_simp; try with_reducible rfl
      try simp only [Act.put, List.setIfInBounds_toArray, List.set_cons_zero, List.set_cons_succ]
      refine wpAnyH_take (i := 48) (oi := { dst := some 98, op := Go.Op.load 47 (Go.Operand.tmp 9), type := 47, pos := "law.go:77", after := #[{ on := 44, ground := Go.Ground.guard }], guard := some (44, true) }) (v := ?_) rfl (by kernel_rfl) (by kernel_rfl) (by kernel_rfl) (fun _ _ _ h => h) (Or.inl ⟨by rfl, ?_⟩) (by assumption) ?_
      rotate_left 1
      · intro w hSw; (try dsimp only at hSw); go_simp; try with_reducible rfl
      try simp only [Act.put, List.setIfInBounds_toArray, List.set_cons_zero, List.set_cons_succ]
      refine wpAnyH_take (i := 50) (oi := { dst := some 100, op := Go.Op.load 47 (Go.Operand.tmp 7), type := 47, pos := "law.go:77", after := #[{ on := 44, ground := Go.Ground.guard }], guard := some (44, true) }) (v := ?_) rfl (by kernel_rfl) (by kernel_rfl) (by kernel_rfl) (fun _ _ _ h => h) (Or.inl ⟨by rfl, ?_⟩) (by assumption) ?_
      rotate_left 1
      · intro w hSw; (try dsimp only at hSw); go_simp; try with_reducible rfl
      try simp only [Act.put, List.setIfInBounds_toArray, List.set_cons_zero, List.set_cons_succ]
      refine wpAnyH_ready (rs := [47]) (by kernel_rfl) (by simp) ?_
      refine AllReadyH.cons (o := { dst := some 97, op := Go.Op.call { callee := Go.Callee.value (Go.Operand.func 23), args := #[Go.Operand.tmp 95, Go.Operand.tmp 96], argTypes := #[47, 47] }, type := 4, pos := "law.go:77", after := #[{ on := 45, ground := Go.Ground.data }, { on := 46, ground := Go.Ground.data }, { on := 44, ground := Go.Ground.chain }, { on := 44, ground := Go.Ground.guard }], guard := some (44, true) }) rfl (fun K hK => ?_) AllReadyH.nil
      go_simp
      (first
        | (go_at_call 23; with_reducible refine (HL.out.1 _ (And.left (by assumption))).mono ?_; rintro e w20 ⟨rfl, hj20⟩)
        | (go_at_call 23; with_reducible refine (HL.out.2.1 _ (And.left (by assumption))).mono ?_; rintro e w20 ⟨rfl, hj20⟩)
        | (go_at_call 23; with_reducible refine (HL.out.2.2.1 _ (And.left (by assumption))).mono ?_; rintro e w20 ⟨rfl, hj20⟩)
        | (go_at_call 23; with_reducible refine (HSO.out _ _ _ _ (by assumption) (And.left (by assumption))).mono ?_; rintro e w20 ⟨rfl, hj20⟩)
        | (go_at_call 24; with_reducible refine (HL.out.2.2.2.1 _ (And.left (by assumption))).mono ?_; rintro e w20 ⟨rfl, hj20⟩)
        | (go_at_call 24; with_reducible refine (HL.out.2.2.2.2.1 _ (And.left (by assumption))).mono ?_; rintro e w20 ⟨rfl, hj20⟩)
        | (go_at_call 24; with_reducible refine (HL.out.2.2.2.2.2.1 _ (And.left (by assumption))).mono ?_; rintro e w20 ⟨rfl, hj20⟩)
        | (go_at_call 25; with_reducible refine (HL.out.2.2.2.2.2.2.1 _ (And.left (by assumption))).mono ?_; rintro e w20 ⟨rfl, hj20⟩)
        | (go_at_call 25; with_reducible refine (HL.out.2.2.2.2.2.2.2.1 _ (And.left (by assumption))).mono ?_; rintro e w20 ⟨rfl, hj20⟩)
        | (go_at_call 18; with_reducible refine (HL.out.2.2.2.2.2.2.2.2.1 _ (by assumption)).mono ?_; rintro e w20 ⟨v20, rfl, hs20, hj20⟩)
        | (go_at_call 20; with_reducible refine (HL.out.2.2.2.2.2.2.2.2.2 _ (And.left (by assumption))).mono ?_; rintro e w20 ⟨rfl, hj20⟩))
      go_wp2_with fail
      refine hK.out _ _ ?_ (fun hHeld10 => ?_)
      · (try dsimp only); (first | assumption | exact JJ.all (by assumption) | exact JJ.all (JJ.drew (And.left (by assumption))) | exact JJ.all (JJ.drew (by assumption)))
      clear hK K hHeld9
      try simp only [Act.put, List.setIfInBounds_toArray, List.set_cons_zero, List.set_cons_succ]
      refine wpAnyH_ready (rs := [49]) (by kernel_rfl) (by simp) ?_
      refine AllReadyH.cons (o := { dst := some 99, op := Go.Op.call { callee := Go.Callee.value (Go.Operand.func 24), args := #[Go.Operand.tmp 98], argTypes := #[47] }, type := 3, pos := "law.go:77", after := #[{ on := 48, ground := Go.Ground.data }, { on := 47, ground := Go.Ground.chain }, { on := 44, ground := Go.Ground.guard }], guard := some (44, true) }) rfl (fun K hK => ?_) AllReadyH.nil
      go_simp
      (first
        | (go_at_call 23; with_reducible refine (HL.out.1 _ (And.left (by assumption))).mono ?_; rintro e w20 ⟨rfl, hj20⟩)
        | (go_at_call 23; with_reducible refine (HL.out.2.1 _ (And.left (by assumption))).mono ?_; rintro e w20 ⟨rfl, hj20⟩)
        | (go_at_call 23; with_reducible refine (HL.out.2.2.1 _ (And.left (by assumption))).mono ?_; rintro e w20 ⟨rfl, hj20⟩)
        | (go_at_call 23; with_reducible refine (HSO.out _ _ _ _ (by assumption) (And.left (by assumption))).mono ?_; rintro e w20 ⟨rfl, hj20⟩)
        | (go_at_call 24; with_reducible refine (HL.out.2.2.2.1 _ (And.left (by assumption))).mono ?_; rintro e w20 ⟨rfl, hj20⟩)
        | (go_at_call 24; with_reducible refine (HL.out.2.2.2.2.1 _ (And.left (by assumption))).mono ?_; rintro e w20 ⟨rfl, hj20⟩)
        | (go_at_call 24; with_reducible refine (HL.out.2.2.2.2.2.1 _ (And.left (by assumption))).mono ?_; rintro e w20 ⟨rfl, hj20⟩)
        | (go_at_call 25; with_reducible refine (HL.out.2.2.2.2.2.2.1 _ (And.left (by assumption))).mono ?_; rintro e w20 ⟨rfl, hj20⟩)
        | (go_at_call 25; with_reducible refine (HL.out.2.2.2.2.2.2.2.1 _ (And.left (by assumption))).mono ?_; rintro e w20 ⟨rfl, hj20⟩)
        | (go_at_call 18; with_reducible refine (HL.out.2.2.2.2.2.2.2.2.1 _ (by assumption)).mono ?_; rintro e w20 ⟨v20, rfl, hs20, hj20⟩)
        | (go_at_call 20; with_reducible refine (HL.out.2.2.2.2.2.2.2.2.2 _ (And.left (by assumption))).mono ?_; rintro e w20 ⟨rfl, hj20⟩))
      go_wp2_with fail
      refine hK.out _ _ ?_ (fun hHeld11 => ?_)
      · (try dsimp only); (first | assumption | exact JJ.all (by assumption) | exact JJ.all (JJ.drew (And.left (by assumption))) | exact JJ.all (JJ.drew (by assumption)))
      clear hK K hHeld10
      try simp only [Act.put, List.setIfInBounds_toArray, List.set_cons_zero, List.set_cons_succ]
      refine wpAnyH_ready (rs := [51]) (by kernel_rfl) (by simp) ?_
      refine AllReadyH.cons (o := { dst := some 101, op := Go.Op.call { callee := Go.Callee.value (Go.Operand.func 24), args := #[Go.Operand.tmp 100], argTypes := #[47] }, type := 3, pos := "law.go:77", after := #[{ on := 50, ground := Go.Ground.data }, { on := 49, ground := Go.Ground.chain }, { on := 44, ground := Go.Ground.guard }], guard := some (44, true) }) rfl (fun K hK => ?_) AllReadyH.nil
      go_simp
      (first
        | (go_at_call 23; with_reducible refine (HL.out.1 _ (And.left (by assumption))).mono ?_; rintro e w20 ⟨rfl, hj20⟩)
        | (go_at_call 23; with_reducible refine (HL.out.2.1 _ (And.left (by assumption))).mono ?_; rintro e w20 ⟨rfl, hj20⟩)
        | (go_at_call 23; with_reducible refine (HL.out.2.2.1 _ (And.left (by assumption))).mono ?_; rintro e w20 ⟨rfl, hj20⟩)
        | (go_at_call 23; with_reducible refine (HSO.out _ _ _ _ (by assumption) (And.left (by assumption))).mono ?_; rintro e w20 ⟨rfl, hj20⟩)
        | (go_at_call 24; with_reducible refine (HL.out.2.2.2.1 _ (And.left (by assumption))).mono ?_; rintro e w20 ⟨rfl, hj20⟩)
        | (go_at_call 24; with_reducible refine (HL.out.2.2.2.2.1 _ (And.left (by assumption))).mono ?_; rintro e w20 ⟨rfl, hj20⟩)
        | (go_at_call 24; with_reducible refine (HL.out.2.2.2.2.2.1 _ (And.left (by assumption))).mono ?_; rintro e w20 ⟨rfl, hj20⟩)
        | (go_at_call 25; with_reducible refine (HL.out.2.2.2.2.2.2.1 _ (And.left (by assumption))).mono ?_; rintro e w20 ⟨rfl, hj20⟩)
        | (go_at_call 25; with_reducible refine (HL.out.2.2.2.2.2.2.2.1 _ (And.left (by assumption))).mono ?_; rintro e w20 ⟨rfl, hj20⟩)
        | (go_at_call 18; with_reducible refine (HL.out.2.2.2.2.2.2.2.2.1 _ (by assumption)).mono ?_; rintro e w20 ⟨v20, rfl, hs20, hj20⟩)
        | (go_at_call 20; with_reducible refine (HL.out.2.2.2.2.2.2.2.2.2 _ (And.left (by assumption))).mono ?_; rintro e w20 ⟨rfl, hj20⟩))
      go_wp2_with fail
      refine hK.out _ _ ?_ (fun hHeld12 => ?_)
      · (try dsimp only); (first | assumption | exact JJ.all (by assumption) | exact JJ.all (JJ.drew (And.left (by assumption))) | exact JJ.all (JJ.drew (by assumption)))
      clear hK K hHeld11
      try simp only [Act.put, List.setIfInBounds_toArray, List.set_cons_zero, List.set_cons_succ]
      refine wpAnyH_take (i := 52) (oi := { dst := some 102, op := Go.Op.binOp Go.BinOp.eql 3 (Go.Operand.tmp 99) (Go.Operand.tmp 101) 3, type := 4, pos := "law.go:77", after := #[{ on := 49, ground := Go.Ground.data }, { on := 51, ground := Go.Ground.data }, { on := 44, ground := Go.Ground.guard }], guard := some (44, true) }) (v := ?_) rfl (by kernel_rfl) (by kernel_rfl) (by kernel_rfl) (fun _ _ _ h => h) (Or.inl ⟨by rfl, ?_⟩) (by assumption) ?_
      rotate_left 1
      · intro w hSw; (try dsimp only at hSw); go_simp; try with_reducible rfl
      try simp only [Act.put, List.setIfInBounds_toArray, List.set_cons_zero, List.set_cons_succ]
      refine wpAnyH_take (i := 53) (oi := { dst := some 103, op := Go.Op.move (Go.Operand.tmp 102), type := 4, pos := "law.go:77", after := #[{ on := 52, ground := Go.Ground.data }, { on := 51, ground := Go.Ground.chain }, { on := 44, ground := Go.Ground.guard }], guard := some (44, true) }) (v := ?_) rfl (by kernel_rfl) (by kernel_rfl) (by kernel_rfl) (fun _ _ _ h => h) (Or.inl ⟨by rfl, ?_⟩) (by assumption) ?_
      rotate_left 1
      · intro w hSw; (try dsimp only at hSw); go_simp; try with_reducible rfl
      try simp only [Act.put, List.setIfInBounds_toArray, List.set_cons_zero, List.set_cons_succ]
      refine wpAnyH_take (i := 54) (oi := { dst := some 104, op := Go.Op.load 47 (Go.Operand.tmp 9), type := 47, pos := "law.go:77", after := #[{ on := 53, ground := Go.Ground.guard }], guard := some (53, true) }) (v := undef) rfl (by kernel_rfl) (by kernel_rfl) (by kernel_rfl) (fun _ _ _ h => h) (Or.inr ⟨by rfl, rfl⟩) (by assumption) ?_
      try simp only [Act.put, List.setIfInBounds_toArray, List.set_cons_zero, List.set_cons_succ]
      refine wpAnyH_take (i := 55) (oi := { dst := some 105, op := Go.Op.call { callee := Go.Callee.value (Go.Operand.func 24), args := #[Go.Operand.tmp 104], argTypes := #[47] }, type := 3, pos := "law.go:77", after := #[{ on := 54, ground := Go.Ground.data }, { on := 53, ground := Go.Ground.chain }, { on := 53, ground := Go.Ground.guard }], guard := some (53, true) }) (v := undef) rfl (by kernel_rfl) (by kernel_rfl) (by kernel_rfl) (fun _ _ _ h => h) (Or.inr ⟨by rfl, rfl⟩) (by assumption) ?_
      try simp only [Act.put, List.setIfInBounds_toArray, List.set_cons_zero, List.set_cons_succ]
      refine wpAnyH_take (i := 56) (oi := { dst := some 106, op := Go.Op.load 47 (Go.Operand.tmp 8), type := 47, pos := "law.go:77", after := #[{ on := 53, ground := Go.Ground.guard }], guard := some (53, true) }) (v := undef) rfl (by kernel_rfl) (by kernel_rfl) (by kernel_rfl) (fun _ _ _ h => h) (Or.inr ⟨by rfl, rfl⟩) (by assumption) ?_
      try simp only [Act.put, List.setIfInBounds_toArray, List.set_cons_zero, List.set_cons_succ]
      refine wpAnyH_take (i := 57) (oi := { dst := some 107, op := Go.Op.call { callee := Go.Callee.value (Go.Operand.func 24), args := #[Go.Operand.tmp 106], argTypes := #[47] }, type := 3, pos := "law.go:77", after := #[{ on := 56, ground := Go.Ground.data }, { on := 55, ground := Go.Ground.chain }, { on := 53, ground := Go.Ground.guard }], guard := some (53, true) }) (v := undef) rfl (by kernel_rfl) (by kernel_rfl) (by kernel_rfl) (fun _ _ _ h => h) (Or.inr ⟨by rfl, rfl⟩) (by assumption) ?_
      try simp only [Act.put, List.setIfInBounds_toArray, List.set_cons_zero, List.set_cons_succ]
      refine wpAnyH_take (i := 58) (oi := { dst := some 108, op := Go.Op.binOp Go.BinOp.eql 3 (Go.Operand.tmp 105) (Go.Operand.tmp 107) 3, type := 4, pos := "law.go:77", after := #[{ on := 55, ground := Go.Ground.data }, { on := 57, ground := Go.Ground.data }, { on := 53, ground := Go.Ground.guard }], guard := some (53, true) }) (v := undef) rfl (by kernel_rfl) (by kernel_rfl) (by kernel_rfl) (fun _ _ _ h => h) (Or.inr ⟨by rfl, rfl⟩) (by assumption) ?_
      try simp only [Act.put, List.setIfInBounds_toArray, List.set_cons_zero, List.set_cons_succ]
      refine wpAnyH_take (i := 59) (oi := { dst := some 109, op := Go.Op.pick (Go.Operand.tmp 103) (Go.Operand.tmp 108) (Go.Operand.const (Go.Value.bool false)), type := 4, pos := "law.go:77", after := #[{ on := 53, ground := Go.Ground.data }, { on := 58, ground := Go.Ground.data }, { on := 44, ground := Go.Ground.guard }], guard := some (44, true) }) (v := ?_) rfl (by kernel_rfl) (by kernel_rfl) (by kernel_rfl) (fun _ _ _ h => h) (Or.inl ⟨by rfl, ?_⟩) (by assumption) ?_
      rotate_left 1
      · intro w hSw; (try dsimp only at hSw); go_simp; try with_reducible rfl
      try simp only [Act.put, List.setIfInBounds_toArray, List.set_cons_zero, List.set_cons_succ]
      refine wpAnyH_take (i := 60) (oi := { dst := some 110, op := Go.Op.binOp Go.BinOp.eql 4 (Go.Operand.tmp 97) (Go.Operand.tmp 109) 4, type := 4, pos := "law.go:77", after := #[{ on := 47, ground := Go.Ground.data }, { on := 59, ground := Go.Ground.data }, { on := 44, ground := Go.Ground.guard }], guard := some (44, true) }) (v := ?_) rfl (by kernel_rfl) (by kernel_rfl) (by kernel_rfl) (fun _ _ _ h => h) (Or.inl ⟨by rfl, ?_⟩) (by assumption) ?_
      rotate_left 1
      · intro w hSw; (try dsimp only at hSw); go_simp; try with_reducible rfl
      try simp only [Act.put, List.setIfInBounds_toArray, List.set_cons_zero, List.set_cons_succ]
      refine wpAnyH_take (i := 61) (oi := { dst := some 111, op := Go.Op.pick (Go.Operand.tmp 94) (Go.Operand.tmp 110) (Go.Operand.const (Go.Value.bool false)), type := 4, pos := "law.go:77", after := #[{ on := 44, ground := Go.Ground.data }, { on := 60, ground := Go.Ground.data }], guard := none }) (v := ?_) rfl (by kernel_rfl) (by kernel_rfl) (by kernel_rfl) (fun _ _ _ h => h) (Or.inl ⟨by rfl, ?_⟩) (by assumption) ?_
      rotate_left 1
      · intro w hSw; (try dsimp only at hSw); go_simp; try with_reducible rfl
      try simp only [Act.put, List.setIfInBounds_toArray, List.set_cons_zero, List.set_cons_succ]
      refine wpAnyH_take (i := 62) (oi := { dst := some 6, op := Go.Op.assign (Go.Operand.tmp 111), type := 4, pos := "law.go:77", after := #[{ on := 61, ground := Go.Ground.data }, { on := 57, ground := Go.Ground.chain }, { on := 0, ground := Go.Ground.phase }, { on := 1, ground := Go.Ground.phase }, { on := 2, ground := Go.Ground.phase }, { on := 3, ground := Go.Ground.phase }, { on := 4, ground := Go.Ground.phase }, { on := 5, ground := Go.Ground.phase }, { on := 6, ground := Go.Ground.phase }, { on := 7, ground := Go.Ground.phase }, { on := 8, ground := Go.Ground.phase }, { on := 9, ground := Go.Ground.phase }, { on := 10, ground := Go.Ground.phase }, { on := 11, ground := Go.Ground.phase }, { on := 12, ground := Go.Ground.phase }, { on := 13, ground := Go.Ground.phase }, { on := 14, ground := Go.Ground.phase }, { on := 15, ground := Go.Ground.phase }, { on := 16, ground := Go.Ground.phase }, { on := 17, ground := Go.Ground.phase }, { on := 18, ground := Go.Ground.phase }, { on := 19, ground := Go.Ground.phase }, { on := 20, ground := Go.Ground.phase }, { on := 21, ground := Go.Ground.phase }, { on := 22, ground := Go.Ground.phase }, { on := 23, ground := Go.Ground.phase }, { on := 24, ground := Go.Ground.phase }, { on := 25, ground := Go.Ground.phase }, { on := 26, ground := Go.Ground.phase }, { on := 27, ground := Go.Ground.phase }, { on := 28, ground := Go.Ground.phase }, { on := 29, ground := Go.Ground.phase }, { on := 30, ground := Go.Ground.phase }, { on := 31, ground := Go.Ground.phase }, { on := 32, ground := Go.Ground.phase }, { on := 33, ground := Go.Ground.phase }, { on := 34, ground := Go.Ground.phase }, { on := 35, ground := Go.Ground.phase }, { on := 36, ground := Go.Ground.phase }, { on := 37, ground := Go.Ground.phase }, { on := 38, ground := Go.Ground.phase }, { on := 39, ground := Go.Ground.phase }, { on := 40, ground := Go.Ground.phase }, { on := 41, ground := Go.Ground.phase }, { on := 42, ground := Go.Ground.phase }, { on := 43, ground := Go.Ground.phase }, { on := 44, ground := Go.Ground.phase }, { on := 45, ground := Go.Ground.phase }, { on := 46, ground := Go.Ground.phase }, { on := 47, ground := Go.Ground.phase }, { on := 48, ground := Go.Ground.phase }, { on := 49, ground := Go.Ground.phase }, { on := 50, ground := Go.Ground.phase }, { on := 51, ground := Go.Ground.phase }, { on := 52, ground := Go.Ground.phase }, { on := 53, ground := Go.Ground.phase }, { on := 54, ground := Go.Ground.phase }, { on := 55, ground := Go.Ground.phase }, { on := 56, ground := Go.Ground.phase }, { on := 57, ground := Go.Ground.phase }, { on := 58, ground := Go.Ground.phase }, { on := 59, ground := Go.Ground.phase }, { on := 60, ground := Go.Ground.phase }, { on := 61, ground := Go.Ground.phase }], guard := none }) (v := ?_) rfl (by kernel_rfl) (by kernel_rfl) (by kernel_rfl) (fun _ _ _ h => h) (Or.inl ⟨by rfl, ?_⟩) (by assumption) ?_
      rotate_left 1
      · intro w hSw; (try dsimp only at hSw); go_simp; try with_reducible rfl
      try simp only [Act.put, List.setIfInBounds_toArray, List.set_cons_zero, List.set_cons_succ]
      refine wpAnyH_done (by kernel_rfl) ?_ _
      have hfin := hHeld12
      have hbel := (And.left (And.left hfin)).below
      have HBE := Lib.hid hbel
      clear hfin hbel hS
      go_wp2
      go_ret
      exact ⟨rfl, by rw [HB.out]; exact HBE.out⟩
  · have hj17 : ∀ u, J5 w (w16.setCell ⟨gl, 0, none⟩ u) B z pu pv pw _ _ _ _ _ xs ys (joinL xs ys) vs (ins ltS x vs) := fun u => HJ15.out.later (hb16.setCell (p := ⟨gl, 0, none⟩) hgl u)
    have HJ16 := Lib.hid hj16
    have HJ17 := Lib.hid hj17
    have hxl : 0 < xs.length ∨ xs.length = 0 := by omega
    have hc0 : 0 < xs.length → ∃ u, w16.cell? ⟨gl, 0, none⟩ = some u := fun h => by
      have := own_cellsS hsl.own 0 _ (List.getElem?_eq_getElem h)
      exact ⟨_, this⟩
    have hf0 : w16.frozen? ⟨gl, 0, none⟩ = false := by simp [World.frozen?, hhl]
    clear hj16 hj17 HJ15 hb16
    rcases hxl with hxl | hxl
    · obtain ⟨u0, hu0⟩ := hc0 hxl
      have hxI : decide ((0 : Int) < (xs.length : Int)) = true := by simp; omega
      go_wp2_with fail
      have hx5 := HXS.out
      have hv5 := HVS.out
      have hj := HJ17.out (.string ⟨#[122, 122]⟩)
      have he1 : decide (joinL xs ys = vs) = true := decide_eq_true (by rw [← hx5.1, ← hx5.2, ← hv5]; exact join_of la lb)
      have he2 : decide ((xs.length : Int) < ((joinL xs ys).length : Int)) = decide (xs.length < (joinL xs ys).length) := by
        by_cases h : xs.length < (joinL xs ys).length
        · rw [decide_eq_true h]; exact decide_eq_true (by omega)
        · rw [decide_eq_false h]; exact decide_eq_false (by omega)
      have he3 : decide (xs = ofLS la) = true := decide_eq_true hx5.1.symm
      have he4 := ins_eq x vs
      have he5 : decide (x ∈ ins ltS x vs) = true := decide_eq_true ((mem_ins x x vs).2 (.inl rfl))
      have hsi := same_iff xs ys hj.bs.set.srt hj.bt.set.srt
      have hsub : ∀ y ∈ ys, y ∈ joinL xs ys := fun y hy => (mem_joinS xs ys y).2 (.inr hy)
      have hla := h1
      have hul : (joinL xs ys).length ≤ 60 := by have := (joinL_len xs ys).2; omega
      have hnl : (ins ltS x vs).length ≤ 1048576 := by have := length_ins (lt := ltS) x vs; split at this <;> omega
      have HL := Lib.hid (And.intro (fun W (h : JJ w B z pu pv pw (.slice A3 xs.length c3) (.slice A4 ys.length c4) (.slice A6 (joinL xs ys).length c6) (.slice A8 vs.length c8) (.slice A10 (ins ltS x vs).length c10) xs ys (joinL xs ys) vs (ins ltS x vs) A1 la W) => jj_same_uv h) (And.intro (fun W (h : JJ w B z pu pv pw (.slice A3 xs.length c3) (.slice A4 ys.length c4) (.slice A6 (joinL xs ys).length c6) (.slice A8 vs.length c8) (.slice A10 (ins ltS x vs).length c10) xs ys (joinL xs ys) vs (ins ltS x vs) A1 la W) => jj_same_wv h) (And.intro (fun W (h : JJ w B z pu pv pw (.slice A3 xs.length c3) (.slice A4 ys.length c4) (.slice A6 (joinL xs ys).length c6) (.slice A8 vs.length c8) (.slice A10 (ins ltS x vs).length c10) xs ys (joinL xs ys) vs (ins ltS x vs) A1 la W) => jj_same_st h) (And.intro (fun W (h : JJ w B z pu pv pw (.slice A3 xs.length c3) (.slice A4 ys.length c4) (.slice A6 (joinL xs ys).length c6) (.slice A8 vs.length c8) (.slice A10 (ins ltS x vs).length c10) xs ys (joinL xs ys) vs (ins ltS x vs) A1 la W) => jj_len_u h) (And.intro (fun W (h : JJ w B z pu pv pw (.slice A3 xs.length c3) (.slice A4 ys.length c4) (.slice A6 (joinL xs ys).length c6) (.slice A8 vs.length c8) (.slice A10 (ins ltS x vs).length c10) xs ys (joinL xs ys) vs (ins ltS x vs) A1 la W) => jj_len_s h) (And.intro (fun W (h : JJ w B z pu pv pw (.slice A3 xs.length c3) (.slice A4 ys.length c4) (.slice A6 (joinL xs ys).length c6) (.slice A8 vs.length c8) (.slice A10 (ins ltS x vs).length c10) xs ys (joinL xs ys) vs (ins ltS x vs) A1 la W) => jj_len_t h) (And.intro (fun W (h : JJ w B z pu pv pw (.slice A3 xs.length c3) (.slice A4 ys.length c4) (.slice A6 (joinL xs ys).length c6) (.slice A8 vs.length c8) (.slice A10 (ins ltS x vs).length c10) xs ys (joinL xs ys) vs (ins ltS x vs) A1 la W) => jj_has_v x (by omega) h) (And.intro (fun W (h : JJ w B z pu pv pw (.slice A3 xs.length c3) (.slice A4 ys.length c4) (.slice A6 (joinL xs ys).length c6) (.slice A8 vs.length c8) (.slice A10 (ins ltS x vs).length c10) xs ys (joinL xs ys) vs (ins ltS x vs) A1 la W) => jj_has_w x hnl h) (And.intro (fun W (h : JJ w B z pu pv pw (.slice A3 xs.length c3) (.slice A4 ys.length c4) (.slice A6 (joinL xs ys).length c6) (.slice A8 vs.length c8) (.slice A10 (ins ltS x vs).length c10) xs ys (joinL xs ys) vs (ins ltS x vs) A1 la W) => jj_of c1 (by omega) h) (fun W (h : JJ w B z pu pv pw (.slice A3 xs.length c3) (.slice A4 ys.length c4) (.slice A6 (joinL xs ys).length c6) (.slice A8 vs.length c8) (.slice A10 (ins ltS x vs).length c10) xs ys (joinL xs ys) vs (ins ltS x vs) A1 la W) => jj_join (by omega) hsub h))))))))))
      have HSO := Lib.hid (fun W v20 b20 l20 (hs : IsSetS W b20 v20 l20) (h : JJ w B z pu pv pw (.slice A3 xs.length c3) (.slice A4 ys.length c4) (.slice A6 (joinL xs ys).length c6) (.slice A8 vs.length c8) (.slice A10 (ins ltS x vs).length c10) xs ys (joinL xs ys) vs (ins ltS x vs) A1 la W) => jj_same_so v20 b20 l20 hs h)
      have hS := (hj.jj HA.out.1).all
      by_cases hg1 : (joinL xs ys).length = xs.length
      · have hg2 : (((joinL xs ys).length : Int) == (xs.length : Int)) = true := by simp [hg1]
        have he8 : decide (xs = ys) = (((joinL xs ys).length : Int) == (ys.length : Int)) := by
          by_cases h : (joinL xs ys).length = ys.length
          · rw [decide_eq_true (hsi.2 ⟨hg1, h⟩)]; simp [h]
          · rw [decide_eq_false (fun e => h (hsi.1 e).2)]; symm; simp; omega
        clear hsi hg1 hx5 hv5 hsub HXS HVS hj hnl
        go_region_held3 (fun W => JJ w B z pu pv pw (.slice A3 xs.length c3) (.slice A4 ys.length c4) (.slice A6 (joinL xs ys).length c6) (.slice A8 vs.length c8) (.slice A10 (ins ltS x vs).length c10) xs ys (joinL xs ys) vs (ins ltS x vs) A1 la W ∧ W.cell? ⟨z, 0, none⟩ = some (.slice A3 xs.length c3) ∧ W.cell? ⟨z + 1, 0, none⟩ = some (.slice A4 ys.length c4) ∧ W.cell? ⟨pu, 0, none⟩ = some (.slice A6 (joinL xs ys).length c6) ∧ W.cell? ⟨pv, 0, none⟩ = some (.slice A8 vs.length c8) ∧ W.cell? ⟨pw, 0, none⟩ = some (.slice A10 (ins ltS x vs).length c10))
          (first | assumption | exact JJ.all (by assumption) | exact JJ.all (JJ.drew (And.left (by assumption))) | exact JJ.all (JJ.drew (by assumption)))
          (first
            | (go_at_call 23; with_reducible refine (HL.out.1 _ (And.left (by assumption))).mono ?_; rintro e w20 ⟨rfl, hj20⟩)
            | (go_at_call 23; with_reducible refine (HL.out.2.1 _ (And.left (by assumption))).mono ?_; rintro e w20 ⟨rfl, hj20⟩)
            | (go_at_call 23; with_reducible refine (HL.out.2.2.1 _ (And.left (by assumption))).mono ?_; rintro e w20 ⟨rfl, hj20⟩)
            | (go_at_call 23; with_reducible refine (HSO.out _ _ _ _ (by assumption) (And.left (by assumption))).mono ?_; rintro e w20 ⟨rfl, hj20⟩)
            | (go_at_call 24; with_reducible refine (HL.out.2.2.2.1 _ (And.left (by assumption))).mono ?_; rintro e w20 ⟨rfl, hj20⟩)
            | (go_at_call 24; with_reducible refine (HL.out.2.2.2.2.1 _ (And.left (by assumption))).mono ?_; rintro e w20 ⟨rfl, hj20⟩)
            | (go_at_call 24; with_reducible refine (HL.out.2.2.2.2.2.1 _ (And.left (by assumption))).mono ?_; rintro e w20 ⟨rfl, hj20⟩)
            | (go_at_call 25; with_reducible refine (HL.out.2.2.2.2.2.2.1 _ (And.left (by assumption))).mono ?_; rintro e w20 ⟨rfl, hj20⟩)
            | (go_at_call 25; with_reducible refine (HL.out.2.2.2.2.2.2.2.1 _ (And.left (by assumption))).mono ?_; rintro e w20 ⟨rfl, hj20⟩)
            | (go_at_call 18; with_reducible refine (HL.out.2.2.2.2.2.2.2.2.1 _ (by assumption)).mono ?_; rintro e w20 ⟨v20, rfl, hs20, hj20⟩)
            | (go_at_call 20; with_reducible refine (HL.out.2.2.2.2.2.2.2.2.2 _ (And.left (by assumption))).mono ?_; rintro e w20 ⟨rfl, hj20⟩))
        all_goals
          rename_i hfin
          have hbel := (And.left (And.left hfin)).below
          have HBE := Lib.hid hbel
          clear hfin hbel hS
          go_wp2
          go_ret
          exact ⟨rfl, by rw [HB.out]; exact HBE.out⟩
      · have hg2 : (((joinL xs ys).length : Int) == (xs.length : Int)) = false := by simp; omega
        have he8 : decide (xs = ys) = false := decide_eq_false (fun e => hg1 (hsi.1 e).1)
        clear hsi hg1 hx5 hv5 hsub HXS HVS hj hnl
        refine wp_region_held_drew (S := (fun W => JJ w B z pu pv pw (.slice A3 xs.length c3) (.slice A4 ys.length c4) (.slice A6 (joinL xs ys).length c6) (.slice A8 vs.length c8) (.slice A10 (ins ltS x vs).length c10) xs ys (joinL xs ys) vs (ins ltS x vs) A1 la W ∧ W.cell? ⟨z, 0, none⟩ = some (.slice A3 xs.length c3) ∧ W.cell? ⟨z + 1, 0, none⟩ = some (.slice A4 ys.length c4) ∧ W.cell? ⟨pu, 0, none⟩ = some (.slice A6 (joinL xs ys).length c6) ∧ W.cell? ⟨pv, 0, none⟩ = some (.slice A8 vs.length c8) ∧ W.cell? ⟨pw, 0, none⟩ = some (.slice A10 (ins ltS x vs).length c10))) (by kernel_rfl) (by (first | assumption | exact JJ.all (by assumption) | exact JJ.all (JJ.drew (And.left (by assumption))) | exact JJ.all (JJ.drew (by assumption)))) (fun hHeld => ?_)
        refine wpAnyH_take (i := 0) (oi := { dst := some 50, op := Go.Op.load 47 (Go.Operand.tmp 9), type := 47, pos := "law.go:77", after := #[], guard := none }) (v := ?_) rfl (by kernel_rfl) (by kernel_rfl) (by kernel_rfl) (fun _ _ _ h => h) (Or.inl ⟨by rfl, ?_⟩) (by assumption) ?_
        rotate_left 1
        · intro w hSw; (try dsimp only at hSw); go_simp; try with_reducible rfl
        try simp only [Act.put, List.setIfInBounds_toArray, List.set_cons_zero, List.set_cons_succ]
        refine wpAnyH_take (i := 1) (oi := { dst := some 51, op := Go.Op.load 47 (Go.Operand.tmp 11), type := 47, pos := "law.go:77", after := #[], guard := none }) (v := ?_) rfl (by kernel_rfl) (by kernel_rfl) (by kernel_rfl) (fun _ _ _ h => h) (Or.inl ⟨by rfl, ?_⟩) (by assumption) ?_
        rotate_left 1
        · intro w hSw; (try dsimp only at hSw); go_simp; try with_reducible rfl
        try simp only [Act.put, List.setIfInBounds_toArray, List.set_cons_zero, List.set_cons_succ]
        refine wpAnyH_ready (rs := [2]) (by kernel_rfl) (by simp) ?_
        refine AllReadyH.cons (o := { dst := some 52, op := Go.Op.call { callee := Go.Callee.value (Go.Operand.func 23), args := #[Go.Operand.tmp 50, Go.Operand.tmp 51], argTypes := #[47, 47] }, type := 4, pos := "law.go:77", after := #[{ on := 0, ground := Go.Ground.data }, { on := 1, ground := Go.Ground.data }], guard := none }) rfl (fun K hK => ?_) AllReadyH.nil
        go_simp
        (first
          | (go_at_call 23; with_reducible refine (HL.out.1 _ (And.left (by assumption))).mono ?_; rintro e w20 ⟨rfl, hj20⟩)
          | (go_at_call 23; with_reducible refine (HL.out.2.1 _ (And.left (by assumption))).mono ?_; rintro e w20 ⟨rfl, hj20⟩)
          | (go_at_call 23; with_reducible refine (HL.out.2.2.1 _ (And.left (by assumption))).mono ?_; rintro e w20 ⟨rfl, hj20⟩)
          | (go_at_call 23; with_reducible refine (HSO.out _ _ _ _ (by assumption) (And.left (by assumption))).mono ?_; rintro e w20 ⟨rfl, hj20⟩)
          | (go_at_call 24; with_reducible refine (HL.out.2.2.2.1 _ (And.left (by assumption))).mono ?_; rintro e w20 ⟨rfl, hj20⟩)
          | (go_at_call 24; with_reducible refine (HL.out.2.2.2.2.1 _ (And.left (by assumption))).mono ?_; rintro e w20 ⟨rfl, hj20⟩)
          | (go_at_call 24; with_reducible refine (HL.out.2.2.2.2.2.1 _ (And.left (by assumption))).mono ?_; rintro e w20 ⟨rfl, hj20⟩)
          | (go_at_call 25; with_reducible refine (HL.out.2.2.2.2.2.2.1 _ (And.left (by assumption))).mono ?_; rintro e w20 ⟨rfl, hj20⟩)
          | (go_at_call 25; with_reducible refine (HL.out.2.2.2.2.2.2.2.1 _ (And.left (by assumption))).mono ?_; rintro e w20 ⟨rfl, hj20⟩)
          | (go_at_call 18; with_reducible refine (HL.out.2.2.2.2.2.2.2.2.1 _ (by assumption)).mono ?_; rintro e w20 ⟨v20, rfl, hs20, hj20⟩)
          | (go_at_call 20; with_reducible refine (HL.out.2.2.2.2.2.2.2.2.2 _ (And.left (by assumption))).mono ?_; rintro e w20 ⟨rfl, hj20⟩))
        go_wp2_with fail
        refine hK.out _ _ ?_ (fun hHeld1 => ?_)
        · (try dsimp only); (first | assumption | exact JJ.all (by assumption) | exact JJ.all (JJ.drew (And.left (by assumption))) | exact JJ.all (JJ.drew (by assumption)))
        clear hK K hHeld
        try simp only [Act.put, List.setIfInBounds_toArray, List.set_cons_zero, List.set_cons_succ]
        refine wpAnyH_take (i := 3) (oi := { dst := some 53, op := Go.Op.move (Go.Operand.tmp 52), type := 4, pos := "law.go:77", after := #[{ on := 2, ground := Go.Ground.data }, { on := 2, ground := Go.Ground.chain }], guard := none }) (v := ?_) rfl (by kernel_rfl) (by kernel_rfl) (by kernel_rfl) (fun _ _ _ h => h) (Or.inl ⟨by rfl, ?_⟩) (by assumption) ?_
        rotate_left 1
        · intro w hSw; (try dsimp only at hSw); go_simp; try with_reducible rfl
        try simp only [Act.put, List.setIfInBounds_toArray, List.set_cons_zero, List.set_cons_succ]
        refine wpAnyH_take (i := 4) (oi := { dst := some 54, op := Go.Op.move (Go.Operand.tmp 10), type := 4, pos := "law.go:77", after := #[{ on := 3, ground := Go.Ground.guard }], guard := some (3, true) }) (v := ?_) rfl (by kernel_rfl) (by kernel_rfl) (by kernel_rfl) (fun _ _ _ h => h) (Or.inl ⟨by rfl, ?_⟩) (by assumption) ?_
        rotate_left 1
        · intro w hSw; (try dsimp only at hSw); go_simp; try with_reducible rfl
        try simp only [Act.put, List.setIfInBounds_toArray, List.set_cons_zero, List.set_cons_succ]
        refine wpAnyH_take (i := 5) (oi := { dst := some 55, op := Go.Op.load 47 (Go.Operand.tmp 9), type := 47, pos := "law.go:77", after := #[{ on := 3, ground := Go.Ground.guard }], guard := some (3, true) }) (v := ?_) rfl (by kernel_rfl) (by kernel_rfl) (by kernel_rfl) (fun _ _ _ h => h) (Or.inl ⟨by rfl, ?_⟩) (by assumption) ?_
        rotate_left 1
        · intro w hSw; (try dsimp only at hSw); go_simp; try with_reducible rfl
        try simp only [Act.put, List.setIfInBounds_toArray, List.set_cons_zero, List.set_cons_succ]
        refine wpAnyH_take (i := 7) (oi := { dst := some 57, op := Go.Op.load 47 (Go.Operand.tmp 7), type := 47, pos := "law.go:77", after := #[{ on := 3, ground := Go.Ground.guard }], guard := some (3, true) }) (v := ?_) rfl (by kernel_rfl) (by kernel_rfl) (by kernel_rfl) (fun _ _ _ h => h) (Or.inl ⟨by rfl, ?_⟩) (by assumption) ?_
        rotate_left 1
        · intro w hSw; (try dsimp only at hSw); go_simp; try with_reducible rfl
        try simp only [Act.put, List.setIfInBounds_toArray, List.set_cons_zero, List.set_cons_succ]
        refine wpAnyH_ready (rs := [6]) (by kernel_rfl) (by simp) ?_
        refine AllReadyH.cons (o := { dst := some 56, op := Go.Op.call { callee := Go.Callee.value (Go.Operand.func 24), args := #[Go.Operand.tmp 55], argTypes := #[47] }, type := 3, pos := "law.go:77", after := #[{ on := 5, ground := Go.Ground.data }, { on := 3, ground := Go.Ground.chain }, { on := 3, ground := Go.Ground.guard }], guard := some (3, true) }) rfl (fun K hK => ?_) AllReadyH.nil
        go_simp
        (first
          | (go_at_call 23; with_reducible refine (HL.out.1 _ (And.left (by assumption))).mono ?_; rintro e w20 ⟨rfl, hj20⟩)
          | (go_at_call 23; with_reducible refine (HL.out.2.1 _ (And.left (by assumption))).mono ?_; rintro e w20 ⟨rfl, hj20⟩)
          | (go_at_call 23; with_reducible refine (HL.out.2.2.1 _ (And.left (by assumption))).mono ?_; rintro e w20 ⟨rfl, hj20⟩)
          | (go_at_call 23; with_reducible refine (HSO.out _ _ _ _ (by assumption) (And.left (by assumption))).mono ?_; rintro e w20 ⟨rfl, hj20⟩)
          | (go_at_call 24; with_reducible refine (HL.out.2.2.2.1 _ (And.left (by assumption))).mono ?_; rintro e w20 ⟨rfl, hj20⟩)
          | (go_at_call 24; with_reducible refine (HL.out.2.2.2.2.1 _ (And.left (by assumption))).mono ?_; rintro e w20 ⟨rfl, hj20⟩)
          | (go_at_call 24; with_reducible refine (HL.out.2.2.2.2.2.1 _ (And.left (by assumption))).mono ?_; rintro e w20 ⟨rfl, hj20⟩)
          | (go_at_call 25; with_reducible refine (HL.out.2.2.2.2.2.2.1 _ (And.left (by assumption))).mono ?_; rintro e w20 ⟨rfl, hj20⟩)
          | (go_at_call 25; with_reducible refine (HL.out.2.2.2.2.2.2.2.1 _ (And.left (by assumption))).mono ?_; rintro e w20 ⟨rfl, hj20⟩)
          | (go_at_call 18; with_reducible refine (HL.out.2.2.2.2.2.2.2.2.1 _ (by assumption)).mono ?_; rintro e w20 ⟨v20, rfl, hs20, hj20⟩)
          | (go_at_call 20; with_reducible refine (HL.out.2.2.2.2.2.2.2.2.2 _ (And.left (by assumption))).mono ?_; rintro e w20 ⟨rfl, hj20⟩))
        go_wp2_with fail
        refine hK.out _ _ ?_ (fun hHeld2 => ?_)
        · (try dsimp only); (first | assumption | exact JJ.all (by assumption) | exact JJ.all (JJ.drew (And.left (by assumption))) | exact JJ.all (JJ.drew (by assumption)))
        clear hK K hHeld1
        try simp only [Act.put, List.setIfInBounds_toArray, List.set_cons_zero, List.set_cons_succ]
        refine wpAnyH_ready (rs := [8]) (by kernel_rfl) (by simp) ?_
        refine AllReadyH.cons (o := { dst := some 58, op := Go.Op.call { callee := Go.Callee.value (Go.Operand.func 24), args := #[Go.Operand.tmp 57], argTypes := #[47] }, type := 3, pos := "law.go:77", after := #[{ on := 7, ground := Go.Ground.data }, { on := 6, ground := Go.Ground.chain }, { on := 3, ground := Go.Ground.guard }], guard := some (3, true) }) rfl (fun K hK => ?_) AllReadyH.nil
        go_simp
        (first
          | (go_at_call 23; with_reducible refine (HL.out.1 _ (And.left (by assumption))).mono ?_; rintro e w20 ⟨rfl, hj20⟩)
          | (go_at_call 23; with_reducible refine (HL.out.2.1 _ (And.left (by assumption))).mono ?_; rintro e w20 ⟨rfl, hj20⟩)
          | (go_at_call 23; with_reducible refine (HL.out.2.2.1 _ (And.left (by assumption))).mono ?_; rintro e w20 ⟨rfl, hj20⟩)
          | (go_at_call 23; with_reducible refine (HSO.out _ _ _ _ (by assumption) (And.left (by assumption))).mono ?_; rintro e w20 ⟨rfl, hj20⟩)
          | (go_at_call 24; with_reducible refine (HL.out.2.2.2.1 _ (And.left (by assumption))).mono ?_; rintro e w20 ⟨rfl, hj20⟩)
          | (go_at_call 24; with_reducible refine (HL.out.2.2.2.2.1 _ (And.left (by assumption))).mono ?_; rintro e w20 ⟨rfl, hj20⟩)
          | (go_at_call 24; with_reducible refine (HL.out.2.2.2.2.2.1 _ (And.left (by assumption))).mono ?_; rintro e w20 ⟨rfl, hj20⟩)
          | (go_at_call 25; with_reducible refine (HL.out.2.2.2.2.2.2.1 _ (And.left (by assumption))).mono ?_; rintro e w20 ⟨rfl, hj20⟩)
          | (go_at_call 25; with_reducible refine (HL.out.2.2.2.2.2.2.2.1 _ (And.left (by assumption))).mono ?_; rintro e w20 ⟨rfl, hj20⟩)
          | (go_at_call 18; with_reducible refine (HL.out.2.2.2.2.2.2.2.2.1 _ (by assumption)).mono ?_; rintro e w20 ⟨v20, rfl, hs20, hj20⟩)
          | (go_at_call 20; with_reducible refine (HL.out.2.2.2.2.2.2.2.2.2 _ (And.left (by assumption))).mono ?_; rintro e w20 ⟨rfl, hj20⟩))
        go_wp2_with fail
        refine hK.out _ _ ?_ (fun hHeld3 => ?_)
        · (try dsimp only); (first | assumption | exact JJ.all (by assumption) | exact JJ.all (JJ.drew (And.left (by assumption))) | exact JJ.all (JJ.drew (by assumption)))
        clear hK K hHeld2
        try simp only [Act.put, List.setIfInBounds_toArray, List.set_cons_zero, List.set_cons_succ]
        refine wpAnyH_take (i := 9) (oi := { dst := some 59, op := Go.Op.binOp Go.BinOp.gtr 3 (Go.Operand.tmp 56) (Go.Operand.tmp 58) 3, type := 4, pos := "law.go:77", after := #[{ on := 6, ground := Go.Ground.data }, { on := 8, ground := Go.Ground.data }, { on := 3, ground := Go.Ground.guard }], guard := some (3, true) }) (v := ?_) rfl (by kernel_rfl) (by kernel_rfl) (by kernel_rfl) (fun _ _ _ h => h) (Or.inl ⟨by rfl, ?_⟩) (by assumption) ?_
        rotate_left 1
        · intro w hSw; (try dsimp only at hSw); go_simp; try with_reducible rfl
        try simp only [Act.put, List.setIfInBounds_toArray, List.set_cons_zero, List.set_cons_succ]
        refine wpAnyH_take (i := 10) (oi := { dst := some 60, op := Go.Op.binOp Go.BinOp.eql 4 (Go.Operand.tmp 54) (Go.Operand.tmp 59) 4, type := 4, pos := "law.go:77", after := #[{ on := 4, ground := Go.Ground.data }, { on := 9, ground := Go.Ground.data }, { on := 3, ground := Go.Ground.guard }], guard := some (3, true) }) (v := ?_) rfl (by kernel_rfl) (by kernel_rfl) (by kernel_rfl) (fun _ _ _ h => h) (Or.inl ⟨by rfl, ?_⟩) (by assumption) ?_
        rotate_left 1
        · intro w hSw; (try dsimp only at hSw); go_simp; try with_reducible rfl
        try simp only [Act.put, List.setIfInBounds_toArray, List.set_cons_zero, List.set_cons_succ]
        refine wpAnyH_take (i := 11) (oi := { dst := some 61, op := Go.Op.pick (Go.Operand.tmp 53) (Go.Operand.tmp 60) (Go.Operand.const (Go.Value.bool false)), type := 4, pos := "law.go:77", after := #[{ on := 3, ground := Go.Ground.data }, { on := 10, ground := Go.Ground.data }], guard := none }) (v := ?_) rfl (by kernel_rfl) (by kernel_rfl) (by kernel_rfl) (fun _ _ _ h => h) (Or.inl ⟨by rfl, ?_⟩) (by assumption) ?_
        rotate_left 1
        · intro w hSw; (try dsimp only at hSw); go_simp; try with_reducible rfl
        try simp only [Act.put, List.setIfInBounds_toArray, List.set_cons_zero, List.set_cons_succ]
        refine wpAnyH_take (i := 12) (oi := { dst := some 62, op := Go.Op.move (Go.Operand.tmp 61), type := 4, pos := "law.go:77", after := #[{ on := 11, ground := Go.Ground.data }, { on := 8, ground := Go.Ground.chain }], guard := none }) (v := ?_) rfl (by kernel_rfl) (by kernel_rfl) (by kernel_rfl) (fun _ _ _ h => h) (Or.inl ⟨by rfl, ?_⟩) (by assumption) ?_
        rotate_left 1
        · intro w hSw; (try dsimp only at hSw); go_simp; try with_reducible rfl
        try simp only [Act.put, List.setIfInBounds_toArray, List.set_cons_zero, List.set_cons_succ]
        refine wpAnyH_take (i := 13) (oi := { dst := some 63, op := Go.Op.load 47 (Go.Operand.tmp 8), type := 47, pos := "law.go:77", after := #[{ on := 12, ground := Go.Ground.guard }], guard := some (12, true) }) (v := ?_) rfl (by kernel_rfl) (by kernel_rfl) (by kernel_rfl) (fun _ _ _ h => h) (Or.inl ⟨by rfl, ?_⟩) (by assumption) ?_
        rotate_left 1
        · intro w hSw; (try dsimp only at hSw); go_simp; try with_reducible rfl
        try simp only [Act.put, List.setIfInBounds_toArray, List.set_cons_zero, List.set_cons_succ]
        refine wpAnyH_ready (rs := [14]) (by kernel_rfl) (by simp) ?_
        refine AllReadyH.cons (o := { dst := some 64, op := Go.Op.call { callee := Go.Callee.value (Go.Operand.func 20), args := #[Go.Operand.tmp 9, Go.Operand.tmp 63], argTypes := #[47, 47] }, type := 4, pos := "law.go:77", after := #[{ on := 13, ground := Go.Ground.data }, { on := 12, ground := Go.Ground.chain }, { on := 12, ground := Go.Ground.guard }], guard := some (12, true) }) rfl (fun K hK => ?_) AllReadyH.nil
        go_simp
        (first
          | (go_at_call 23; with_reducible refine (HL.out.1 _ (And.left (by assumption))).mono ?_; rintro e w20 ⟨rfl, hj20⟩)
          | (go_at_call 23; with_reducible refine (HL.out.2.1 _ (And.left (by assumption))).mono ?_; rintro e w20 ⟨rfl, hj20⟩)
          | (go_at_call 23; with_reducible refine (HL.out.2.2.1 _ (And.left (by assumption))).mono ?_; rintro e w20 ⟨rfl, hj20⟩)
          | (go_at_call 23; with_reducible refine (HSO.out _ _ _ _ (by assumption) (And.left (by assumption))).mono ?_; rintro e w20 ⟨rfl, hj20⟩)
          | (go_at_call 24; with_reducible refine (HL.out.2.2.2.1 _ (And.left (by assumption))).mono ?_; rintro e w20 ⟨rfl, hj20⟩)
          | (go_at_call 24; with_reducible refine (HL.out.2.2.2.2.1 _ (And.left (by assumption))).mono ?_; rintro e w20 ⟨rfl, hj20⟩)
          | (go_at_call 24; with_reducible refine (HL.out.2.2.2.2.2.1 _ (And.left (by assumption))).mono ?_; rintro e w20 ⟨rfl, hj20⟩)
          | (go_at_call 25; with_reducible refine (HL.out.2.2.2.2.2.2.1 _ (And.left (by assumption))).mono ?_; rintro e w20 ⟨rfl, hj20⟩)
          | (go_at_call 25; with_reducible refine (HL.out.2.2.2.2.2.2.2.1 _ (And.left (by assumption))).mono ?_; rintro e w20 ⟨rfl, hj20⟩)
          | (go_at_call 18; with_reducible refine (HL.out.2.2.2.2.2.2.2.2.1 _ (by assumption)).mono ?_; rintro e w20 ⟨v20, rfl, hs20, hj20⟩)
          | (go_at_call 20; with_reducible refine (HL.out.2.2.2.2.2.2.2.2.2 _ (And.left (by assumption))).mono ?_; rintro e w20 ⟨rfl, hj20⟩))
        go_wp2_with fail
        refine hK.out _ _ ?_ (fun hHeld4 => ?_)
        · (try dsimp only); (first | assumption | exact JJ.all (by assumption) | exact JJ.all (JJ.drew (And.left (by assumption))) | exact JJ.all (JJ.drew (by assumption)))
        clear hK K hHeld3
        try simp only [Act.put, List.setIfInBounds_toArray, List.set_cons_zero, List.set_cons_succ]
        refine wpAnyH_take (i := 15) (oi := { dst := some 65, op := Go.Op.unOp Go.UnOp.not 4 (Go.Operand.tmp 64), type := 4, pos := "law.go:77", after := #[{ on := 14, ground := Go.Ground.data }, { on := 12, ground := Go.Ground.guard }], guard := some (12, true) }) (v := ?_) rfl (by kernel_rfl) (by kernel_rfl) (by kernel_rfl) (fun _ _ _ h => h) (Or.inl ⟨by rfl, ?_⟩) (by assumption) ?_
        rotate_left 1
        · intro w hSw; (try dsimp only at hSw); go_simp; try with_reducible rfl
        try simp only [Act.put, List.setIfInBounds_toArray, List.set_cons_zero, List.set_cons_succ]
        refine wpAnyH_take (i := 16) (oi := { dst := some 66, op := Go.Op.pick (Go.Operand.tmp 62) (Go.Operand.tmp 65) (Go.Operand.const (Go.Value.bool false)), type := 4, pos := "law.go:77", after := #[{ on := 12, ground := Go.Ground.data }, { on := 15, ground := Go.Ground.data }], guard := none }) (v := ?_) rfl (by kernel_rfl) (by kernel_rfl) (by kernel_rfl) (fun _ _ _ h => h) (Or.inl ⟨by rfl, ?_⟩) (by assumption) ?_
        rotate_left 1
        · intro w hSw; (try dsimp only at hSw); go_simp; try with_reducible rfl
        try simp only [Act.put, List.setIfInBounds_toArray, List.set_cons_zero, List.set_cons_succ]
        refine wpAnyH_take (i := 17) (oi := { dst := some 67, op := Go.Op.move (Go.Operand.tmp 66), type := 4, pos := "law.go:77", after := #[{ on := 16, ground := Go.Ground.data }, { on := 14, ground := Go.Ground.chain }], guard := none }) (v := ?_) rfl (by kernel_rfl) (by kernel_rfl) (by kernel_rfl) (fun _ _ _ h => h) (Or.inl ⟨by rfl, ?_⟩) (by assumption) ?_
        rotate_left 1
        · intro w hSw; (try dsimp only at hSw); go_simp; try with_reducible rfl
        try simp only [Act.put, List.setIfInBounds_toArray, List.set_cons_zero, List.set_cons_succ]
        refine wpAnyH_take (i := 18) (oi := { dst := some 68, op := Go.Op.load 47 (Go.Operand.tmp 7), type := 47, pos := "law.go:77", after := #[{ on := 17, ground := Go.Ground.guard }], guard := some (17, true) }) (v := ?_) rfl (by kernel_rfl) (by kernel_rfl) (by kernel_rfl) (fun _ _ _ h => h) (Or.inl ⟨by rfl, ?_⟩) (by assumption) ?_
        rotate_left 1
        · intro w hSw; (try dsimp only at hSw); go_simp; try with_reducible rfl
        try simp only [Act.put, List.setIfInBounds_toArray, List.set_cons_zero, List.set_cons_succ]
        refine wpAnyH_take (i := 19) (oi := { dst := some 69, op := Go.Op.move (Go.Operand.tmp 0), type := 45, pos := "law.go:77", after := #[{ on := 17, ground := Go.Ground.guard }], guard := some (17, true) }) (v := ?_) rfl (by kernel_rfl) (by kernel_rfl) (by kernel_rfl) (fun _ _ _ h => h) (Or.inl ⟨by rfl, ?_⟩) (by assumption) ?_
        rotate_left 1
        · intro w hSw; (try dsimp only at hSw); go_simp; try with_reducible rfl
        try simp only [Act.put, List.setIfInBounds_toArray, List.set_cons_zero, List.set_cons_succ]
        refine wpAnyH_ready (rs := [20]) (by kernel_rfl) (by simp) ?_
        refine AllReadyH.cons (o := { dst := some 70, op := Go.Op.call { callee := Go.Callee.value (Go.Operand.func 18), args := #[Go.Operand.tmp 69], argTypes := #[45] }, type := 47, pos := "law.go:77", after := #[{ on := 19, ground := Go.Ground.data }, { on := 17, ground := Go.Ground.chain }, { on := 17, ground := Go.Ground.guard }], guard := some (17, true) }) rfl (fun K hK => ?_) AllReadyH.nil
        go_simp
        (first
          | (go_at_call 23; with_reducible refine (HL.out.1 _ (And.left (by assumption))).mono ?_; rintro e w20 ⟨rfl, hj20⟩)
          | (go_at_call 23; with_reducible refine (HL.out.2.1 _ (And.left (by assumption))).mono ?_; rintro e w20 ⟨rfl, hj20⟩)
          | (go_at_call 23; with_reducible refine (HL.out.2.2.1 _ (And.left (by assumption))).mono ?_; rintro e w20 ⟨rfl, hj20⟩)
          | (go_at_call 23; with_reducible refine (HSO.out _ _ _ _ (by assumption) (And.left (by assumption))).mono ?_; rintro e w20 ⟨rfl, hj20⟩)
          | (go_at_call 24; with_reducible refine (HL.out.2.2.2.1 _ (And.left (by assumption))).mono ?_; rintro e w20 ⟨rfl, hj20⟩)
          | (go_at_call 24; with_reducible refine (HL.out.2.2.2.2.1 _ (And.left (by assumption))).mono ?_; rintro e w20 ⟨rfl, hj20⟩)
          | (go_at_call 24; with_reducible refine (HL.out.2.2.2.2.2.1 _ (And.left (by assumption))).mono ?_; rintro e w20 ⟨rfl, hj20⟩)
          | (go_at_call 25; with_reducible refine (HL.out.2.2.2.2.2.2.1 _ (And.left (by assumption))).mono ?_; rintro e w20 ⟨rfl, hj20⟩)
          | (go_at_call 25; with_reducible refine (HL.out.2.2.2.2.2.2.2.1 _ (And.left (by assumption))).mono ?_; rintro e w20 ⟨rfl, hj20⟩)
          | (go_at_call 18; with_reducible refine (HL.out.2.2.2.2.2.2.2.2.1 _ (by assumption)).mono ?_; rintro e w20 ⟨v20, rfl, hs20, hj20⟩)
          | (go_at_call 20; with_reducible refine (HL.out.2.2.2.2.2.2.2.2.2 _ (And.left (by assumption))).mono ?_; rintro e w20 ⟨rfl, hj20⟩))
        go_wp2_with fail
        refine hK.out _ _ ?_ (fun hHeld5 => ?_)
        · (try dsimp only); (first | assumption | exact JJ.all (by assumption) | exact JJ.all (JJ.drew (And.left (by assumption))) | exact JJ.all (JJ.drew (by assumption)))
        clear hK K hHeld4
        try simp only [Act.put, List.setIfInBounds_toArray, List.set_cons_zero, List.set_cons_succ]
        refine wpAnyH_ready (rs := [21]) (by kernel_rfl) (by simp) ?_
        refine AllReadyH.cons (o := { dst := some 71, op := Go.Op.call { callee := Go.Callee.value (Go.Operand.func 23), args := #[Go.Operand.tmp 68, Go.Operand.tmp 70], argTypes := #[47, 47] }, type := 4, pos := "law.go:77", after := #[{ on := 18, ground := Go.Ground.data }, { on := 20, ground := Go.Ground.data }, { on := 20, ground := Go.Ground.chain }, { on := 17, ground := Go.Ground.guard }], guard := some (17, true) }) rfl (fun K hK => ?_) AllReadyH.nil
        go_simp
        (first
          | (go_at_call 23; with_reducible refine (HL.out.1 _ (And.left (by assumption))).mono ?_; rintro e w20 ⟨rfl, hj20⟩)
          | (go_at_call 23; with_reducible refine (HL.out.2.1 _ (And.left (by assumption))).mono ?_; rintro e w20 ⟨rfl, hj20⟩)
          | (go_at_call 23; with_reducible refine (HL.out.2.2.1 _ (And.left (by assumption))).mono ?_; rintro e w20 ⟨rfl, hj20⟩)
          | (go_at_call 23; with_reducible refine (HSO.out _ _ _ _ (by assumption) (And.left (by assumption))).mono ?_; rintro e w20 ⟨rfl, hj20⟩)
          | (go_at_call 24; with_reducible refine (HL.out.2.2.2.1 _ (And.left (by assumption))).mono ?_; rintro e w20 ⟨rfl, hj20⟩)
          | (go_at_call 24; with_reducible refine (HL.out.2.2.2.2.1 _ (And.left (by assumption))).mono ?_; rintro e w20 ⟨rfl, hj20⟩)
          | (go_at_call 24; with_reducible refine (HL.out.2.2.2.2.2.1 _ (And.left (by assumption))).mono ?_; rintro e w20 ⟨rfl, hj20⟩)
          | (go_at_call 25; with_reducible refine (HL.out.2.2.2.2.2.2.1 _ (And.left (by assumption))).mono ?_; rintro e w20 ⟨rfl, hj20⟩)
          | (go_at_call 25; with_reducible refine (HL.out.2.2.2.2.2.2.2.1 _ (And.left (by assumption))).mono ?_; rintro e w20 ⟨rfl, hj20⟩)
          | (go_at_call 18; with_reducible refine (HL.out.2.2.2.2.2.2.2.2.1 _ (by assumption)).mono ?_; rintro e w20 ⟨v20, rfl, hs20, hj20⟩)
          | (go_at_call 20; with_reducible refine (HL.out.2.2.2.2.2.2.2.2.2 _ (And.left (by assumption))).mono ?_; rintro e w20 ⟨rfl, hj20⟩))
        go_wp2_with fail
        refine hK.out _ _ ?_ (fun hHeld6 => ?_)
        · (try dsimp only); (first | assumption | exact JJ.all (by assumption) | exact JJ.all (JJ.drew (And.left (by assumption))) | exact JJ.all (JJ.drew (by assumption)))
        clear hK K hHeld5
        try simp only [Act.put, List.setIfInBounds_toArray, List.set_cons_zero, List.set_cons_succ]
        refine wpAnyH_take (i := 22) (oi := { dst := some 72, op := Go.Op.pick (Go.Operand.tmp 67) (Go.Operand.tmp 71) (Go.Operand.const (Go.Value.bool false)), type := 4, pos := "law.go:77", after := #[{ on := 17, ground := Go.Ground.data }, { on := 21, ground := Go.Ground.data }], guard := none }) (v := ?_) rfl (by kernel_rfl) (by kernel_rfl) (by kernel_rfl) (fun _ _ _ h => h) (Or.inl ⟨by rfl, ?_⟩) (by assumption) ?_
        rotate_left 1
        · intro w hSw; (try dsimp only at hSw); go_simp; try with_reducible rfl
        try simp only [Act.put, List.setIfInBounds_toArray, List.set_cons_zero, List.set_cons_succ]
        refine wpAnyH_take (i := 23) (oi := { dst := some 73, op := Go.Op.move (Go.Operand.tmp 72), type := 4, pos := "law.go:77", after := #[{ on := 22, ground := Go.Ground.data }, { on := 21, ground := Go.Ground.chain }], guard := none }) (v := ?_) rfl (by kernel_rfl) (by kernel_rfl) (by kernel_rfl) (fun _ _ _ h => h) (Or.inl ⟨by rfl, ?_⟩) (by assumption) ?_
        rotate_left 1
        · intro w hSw; (try dsimp only at hSw); go_simp; try with_reducible rfl
        try simp only [Act.put, List.setIfInBounds_toArray, List.set_cons_zero, List.set_cons_succ]
        refine wpAnyH_take (i := 24) (oi := { dst := some 74, op := Go.Op.load 47 (Go.Operand.tmp 12), type := 47, pos := "law.go:77", after := #[{ on := 23, ground := Go.Ground.guard }], guard := some (23, true) }) (v := ?_) rfl (by kernel_rfl) (by kernel_rfl) (by kernel_rfl) (fun _ _ _ h => h) (Or.inl ⟨by rfl, ?_⟩) (by assumption) ?_
        rotate_left 1
        · intro w hSw; (try dsimp only at hSw); go_simp; try with_reducible rfl
        try simp only [Act.put, List.setIfInBounds_toArray, List.set_cons_zero, List.set_cons_succ]
        refine wpAnyH_take (i := 25) (oi := { dst := some 75, op := Go.Op.load 47 (Go.Operand.tmp 11), type := 47, pos := "law.go:77", after := #[{ on := 23, ground := Go.Ground.guard }], guard := some (23, true) }) (v := ?_) rfl (by kernel_rfl) (by kernel_rfl) (by kernel_rfl) (fun _ _ _ h => h) (Or.inl ⟨by rfl, ?_⟩) (by assumption) ?_
        rotate_left 1
        · intro w hSw; (try dsimp only at hSw); go_simp; try with_reducible rfl
        try simp only [Act.put, List.setIfInBounds_toArray, List.set_cons_zero, List.set_cons_succ]
        refine wpAnyH_take (i := 27) (oi := { dst := some 77, op := Go.Op.move (Go.Operand.tmp 13), type := 4, pos := "law.go:77", after := #[{ on := 23, ground := Go.Ground.guard }], guard := some (23, true) }) (v := ?_) rfl (by kernel_rfl) (by kernel_rfl) (by kernel_rfl) (fun _ _ _ h => h) (Or.inl ⟨by rfl, ?_⟩) (by assumption) ?_
        rotate_left 1
        · intro w hSw; (try dsimp only at hSw); go_simp; try with_reducible rfl
        try simp only [Act.put, List.setIfInBounds_toArray, List.set_cons_zero, List.set_cons_succ]
        refine wpAnyH_take (i := 28) (oi := { dst := some 78, op := Go.Op.unOp Go.UnOp.not 4 (Go.Operand.tmp 77), type := 4, pos := "law.go:77", after := #[{ on := 27, ground := Go.Ground.data }, { on := 23, ground := Go.Ground.guard }], guard := some (23, true) }) (v := ?_) rfl (by kernel_rfl) (by kernel_rfl) (by kernel_rfl) (fun _ _ _ h => h) (Or.inl ⟨by rfl, ?_⟩) (by assumption) ?_
        rotate_left 1
        · intro w hSw; (try dsimp only at hSw); go_simp; try with_reducible rfl
        try simp only [Act.put, List.setIfInBounds_toArray, List.set_cons_zero, List.set_cons_succ]
        refine wpAnyH_ready (rs := [26]) (by kernel_rfl) (by simp) ?_
        refine AllReadyH.cons (o := { dst := some 76, op := Go.Op.call { callee := Go.Callee.value (Go.Operand.func 23), args := #[Go.Operand.tmp 74, Go.Operand.tmp 75], argTypes := #[47, 47] }, type := 4, pos := "law.go:77", after := #[{ on := 24, ground := Go.Ground.data }, { on := 25, ground := Go.Ground.data }, { on := 23, ground := Go.Ground.chain }, { on := 23, ground := Go.Ground.guard }], guard := some (23, true) }) rfl (fun K hK => ?_) AllReadyH.nil
        go_simp
        (first
          | (go_at_call 23; with_reducible refine (HL.out.1 _ (And.left (by assumption))).mono ?_; rintro e w20 ⟨rfl, hj20⟩)
          | (go_at_call 23; with_reducible refine (HL.out.2.1 _ (And.left (by assumption))).mono ?_; rintro e w20 ⟨rfl, hj20⟩)
          | (go_at_call 23; with_reducible refine (HL.out.2.2.1 _ (And.left (by assumption))).mono ?_; rintro e w20 ⟨rfl, hj20⟩)
          | (go_at_call 23; with_reducible refine (HSO.out _ _ _ _ (by assumption) (And.left (by assumption))).mono ?_; rintro e w20 ⟨rfl, hj20⟩)
          | (go_at_call 24; with_reducible refine (HL.out.2.2.2.1 _ (And.left (by assumption))).mono ?_; rintro e w20 ⟨rfl, hj20⟩)
          | (go_at_call 24; with_reducible refine (HL.out.2.2.2.2.1 _ (And.left (by assumption))).mono ?_; rintro e w20 ⟨rfl, hj20⟩)
          | (go_at_call 24; with_reducible refine (HL.out.2.2.2.2.2.1 _ (And.left (by assumption))).mono ?_; rintro e w20 ⟨rfl, hj20⟩)
          | (go_at_call 25; with_reducible refine (HL.out.2.2.2.2.2.2.1 _ (And.left (by assumption))).mono ?_; rintro e w20 ⟨rfl, hj20⟩)
          | (go_at_call 25; with_reducible refine (HL.out.2.2.2.2.2.2.2.1 _ (And.left (by assumption))).mono ?_; rintro e w20 ⟨rfl, hj20⟩)
          | (go_at_call 18; with_reducible refine (HL.out.2.2.2.2.2.2.2.2.1 _ (by assumption)).mono ?_; rintro e w20 ⟨v20, rfl, hs20, hj20⟩)
          | (go_at_call 20; with_reducible refine (HL.out.2.2.2.2.2.2.2.2.2 _ (And.left (by assumption))).mono ?_; rintro e w20 ⟨rfl, hj20⟩))
        go_wp2_with fail
        refine hK.out _ _ ?_ (fun hHeld7 => ?_)
        · (try dsimp only); (first | assumption | exact JJ.all (by assumption) | exact JJ.all (JJ.drew (And.left (by assumption))) | exact JJ.all (JJ.drew (by assumption)))
        clear hK K hHeld6
        try simp only [Act.put, List.setIfInBounds_toArray, List.set_cons_zero, List.set_cons_succ]
        refine wpAnyH_take (i := 29) (oi := { dst := some 79, op := Go.Op.binOp Go.BinOp.eql 4 (Go.Operand.tmp 76) (Go.Operand.tmp 78) 4, type := 4, pos := "law.go:77", after := #[{ on := 26, ground := Go.Ground.data }, { on := 28, ground := Go.Ground.data }, { on := 23, ground := Go.Ground.guard }], guard := some (23, true) }) (v := ?_) rfl (by kernel_rfl) (by kernel_rfl) (by kernel_rfl) (fun _ _ _ h => h) (Or.inl ⟨by rfl, ?_⟩) (by assumption) ?_
        rotate_left 1
        · intro w hSw; (try dsimp only at hSw); go_simp; try with_reducible rfl
        try simp only [Act.put, List.setIfInBounds_toArray, List.set_cons_zero, List.set_cons_succ]
        refine wpAnyH_take (i := 30) (oi := { dst := some 80, op := Go.Op.pick (Go.Operand.tmp 73) (Go.Operand.tmp 79) (Go.Operand.const (Go.Value.bool false)), type := 4, pos := "law.go:77", after := #[{ on := 23, ground := Go.Ground.data }, { on := 29, ground := Go.Ground.data }], guard := none }) (v := ?_) rfl (by kernel_rfl) (by kernel_rfl) (by kernel_rfl) (fun _ _ _ h => h) (Or.inl ⟨by rfl, ?_⟩) (by assumption) ?_
        rotate_left 1
        · intro w hSw; (try dsimp only at hSw); go_simp; try with_reducible rfl
        try simp only [Act.put, List.setIfInBounds_toArray, List.set_cons_zero, List.set_cons_succ]
        refine wpAnyH_take (i := 31) (oi := { dst := some 81, op := Go.Op.move (Go.Operand.tmp 80), type := 4, pos := "law.go:77", after := #[{ on := 30, ground := Go.Ground.data }, { on := 26, ground := Go.Ground.chain }], guard := none }) (v := ?_) rfl (by kernel_rfl) (by kernel_rfl) (by kernel_rfl) (fun _ _ _ h => h) (Or.inl ⟨by rfl, ?_⟩) (by assumption) ?_
        rotate_left 1
        · intro w hSw; (try dsimp only at hSw); go_simp; try with_reducible rfl
        try simp only [Act.put, List.setIfInBounds_toArray, List.set_cons_zero, List.set_cons_succ]
        refine wpAnyH_take (i := 32) (oi := { dst := some 82, op := Go.Op.load 47 (Go.Operand.tmp 12), type := 47, pos := "law.go:77", after := #[{ on := 31, ground := Go.Ground.guard }], guard := some (31, true) }) (v := ?_) rfl (by kernel_rfl) (by kernel_rfl) (by kernel_rfl) (fun _ _ _ h => h) (Or.inl ⟨by rfl, ?_⟩) (by assumption) ?_
        rotate_left 1
        · intro w hSw; (try dsimp only at hSw); go_simp; try with_reducible rfl
        try simp only [Act.put, List.setIfInBounds_toArray, List.set_cons_zero, List.set_cons_succ]
        refine wpAnyH_take (i := 33) (oi := { dst := some 83, op := Go.Op.move (Go.Operand.tmp 2), type := 9, pos := "law.go:77", after := #[{ on := 31, ground := Go.Ground.guard }], guard := some (31, true) }) (v := ?_) rfl (by kernel_rfl) (by kernel_rfl) (by kernel_rfl) (fun _ _ _ h => h) (Or.inl ⟨by rfl, ?_⟩) (by assumption) ?_
        rotate_left 1
        · intro w hSw; (try dsimp only at hSw); go_simp; try with_reducible rfl
        try simp only [Act.put, List.setIfInBounds_toArray, List.set_cons_zero, List.set_cons_succ]
        refine wpAnyH_ready (rs := [34]) (by kernel_rfl) (by simp) ?_
        refine AllReadyH.cons (o := { dst := some 84, op := Go.Op.call { callee := Go.Callee.value (Go.Operand.func 25), args := #[Go.Operand.tmp 82, Go.Operand.tmp 83], argTypes := #[47, 9] }, type := 4, pos := "law.go:77", after := #[{ on := 32, ground := Go.Ground.data }, { on := 33, ground := Go.Ground.data }, { on := 31, ground := Go.Ground.chain }, { on := 31, ground := Go.Ground.guard }], guard := some (31, true) }) rfl (fun K hK => ?_) AllReadyH.nil
        go_simp
        (first
          | (go_at_call 23; with_reducible refine (HL.out.1 _ (And.left (by assumption))).mono ?_; rintro e w20 ⟨rfl, hj20⟩)
          | (go_at_call 23; with_reducible refine (HL.out.2.1 _ (And.left (by assumption))).mono ?_; rintro e w20 ⟨rfl, hj20⟩)
          | (go_at_call 23; with_reducible refine (HL.out.2.2.1 _ (And.left (by assumption))).mono ?_; rintro e w20 ⟨rfl, hj20⟩)
          | (go_at_call 23; with_reducible refine (HSO.out _ _ _ _ (by assumption) (And.left (by assumption))).mono ?_; rintro e w20 ⟨rfl, hj20⟩)
          | (go_at_call 24; with_reducible refine (HL.out.2.2.2.1 _ (And.left (by assumption))).mono ?_; rintro e w20 ⟨rfl, hj20⟩)
          | (go_at_call 24; with_reducible refine (HL.out.2.2.2.2.1 _ (And.left (by assumption))).mono ?_; rintro e w20 ⟨rfl, hj20⟩)
          | (go_at_call 24; with_reducible refine (HL.out.2.2.2.2.2.1 _ (And.left (by assumption))).mono ?_; rintro e w20 ⟨rfl, hj20⟩)
          | (go_at_call 25; with_reducible refine (HL.out.2.2.2.2.2.2.1 _ (And.left (by assumption))).mono ?_; rintro e w20 ⟨rfl, hj20⟩)
          | (go_at_call 25; with_reducible refine (HL.out.2.2.2.2.2.2.2.1 _ (And.left (by assumption))).mono ?_; rintro e w20 ⟨rfl, hj20⟩)
          | (go_at_call 18; with_reducible refine (HL.out.2.2.2.2.2.2.2.2.1 _ (by assumption)).mono ?_; rintro e w20 ⟨v20, rfl, hs20, hj20⟩)
          | (go_at_call 20; with_reducible refine (HL.out.2.2.2.2.2.2.2.2.2 _ (And.left (by assumption))).mono ?_; rintro e w20 ⟨rfl, hj20⟩))
        go_wp2_with fail
        refine hK.out _ _ ?_ (fun hHeld8 => ?_)
        · (try dsimp only); (first | assumption | exact JJ.all (by assumption) | exact JJ.all (JJ.drew (And.left (by assumption))) | exact JJ.all (JJ.drew (by assumption)))
        clear hK K hHeld7
        try simp only [Act.put, List.setIfInBounds_toArray, List.set_cons_zero, List.set_cons_succ]
        refine wpAnyH_take (i := 35) (oi := { dst := some 85, op := Go.Op.pick (Go.Operand.tmp 81) (Go.Operand.tmp 84) (Go.Operand.const (Go.Value.bool false)), type := 4, pos := "law.go:77", after := #[{ on := 31, ground := Go.Ground.data }, { on := 34, ground := Go.Ground.data }], guard := none }) (v := ?_) rfl (by kernel_rfl) (by kernel_rfl) (by kernel_rfl) (fun _ _ _ h => h) (Or.inl ⟨by rfl, ?_⟩) (by assumption) ?_
        rotate_left 1
        · intro w hSw; (try dsimp only at hSw); go_simp; try with_reducible rfl
        try simp only [Act.put, List.setIfInBounds_toArray, List.set_cons_zero, List.set_cons_succ]
        refine wpAnyH_take (i := 36) (oi := { dst := some 86, op := Go.Op.move (Go.Operand.tmp 85), type := 4, pos := "law.go:77", after := #[{ on := 35, ground := Go.Ground.data }, { on := 34, ground := Go.Ground.chain }], guard := none }) (v := ?_) rfl (by kernel_rfl) (by kernel_rfl) (by kernel_rfl) (fun _ _ _ h => h) (Or.inl ⟨by rfl, ?_⟩) (by assumption) ?_
        rotate_left 1
        · intro w hSw; (try dsimp only at hSw); go_simp; try with_reducible rfl
        try simp only [Act.put, List.setIfInBounds_toArray, List.set_cons_zero, List.set_cons_succ]
        refine wpAnyH_take (i := 37) (oi := { dst := some 87, op := Go.Op.load 47 (Go.Operand.tmp 11), type := 47, pos := "law.go:77", after := #[{ on := 36, ground := Go.Ground.guard }], guard := some (36, true) }) (v := ?_) rfl (by kernel_rfl) (by kernel_rfl) (by kernel_rfl) (fun _ _ _ h => h) (Or.inl ⟨by rfl, ?_⟩) (by assumption) ?_
        rotate_left 1
        · intro w hSw; (try dsimp only at hSw); go_simp; try with_reducible rfl
        try simp only [Act.put, List.setIfInBounds_toArray, List.set_cons_zero, List.set_cons_succ]
        refine wpAnyH_take (i := 38) (oi := { dst := some 88, op := Go.Op.move (Go.Operand.tmp 2), type := 9, pos := "law.go:77", after := #[{ on := 36, ground := Go.Ground.guard }], guard := some (36, true) }) (v := ?_) rfl (by kernel_rfl) (by kernel_rfl) (by kernel_rfl) (fun _ _ _ h => h) (Or.inl ⟨by rfl, ?_⟩) (by assumption) ?_
        rotate_left 1
        · intro w hSw; (try dsimp only at hSw); go_simp; try with_reducible rfl
        try simp only [Act.put, List.setIfInBounds_toArray, List.set_cons_zero, List.set_cons_succ]
        refine wpAnyH_take (i := 40) (oi := { dst := some 90, op := Go.Op.move (Go.Operand.tmp 13), type := 4, pos := "law.go:77", after := #[{ on := 36, ground := Go.Ground.guard }], guard := some (36, true) }) (v := ?_) rfl (by kernel_rfl) (by kernel_rfl) (by kernel_rfl) (fun _ _ _ h => h) (Or.inl ⟨by rfl, ?_⟩) (by assumption) ?_
        rotate_left 1
        · intro w hSw; (try dsimp only at hSw); go_simp; try with_reducible rfl
        try simp only [Act.put, List.setIfInBounds_toArray, List.set_cons_zero, List.set_cons_succ]
        refine wpAnyH_take (i := 41) (oi := { dst := some 91, op := Go.Op.unOp Go.UnOp.not 4 (Go.Operand.tmp 90), type := 4, pos := "law.go:77", after := #[{ on := 40, ground := Go.Ground.data }, { on := 36, ground := Go.Ground.guard }], guard := some (36, true) }) (v := ?_) rfl (by kernel_rfl) (by kernel_rfl) (by kernel_rfl) (fun _ _ _ h => h) (Or.inl ⟨by rfl, ?_⟩) (by assumption) ?_
        rotate_left 1
        · intro w hSw; (try dsimp only at hSw); go_simp; try with_reducible rfl
        try simp only [Act.put, List.setIfInBounds_toArray, List.set_cons_zero, List.set_cons_succ]
        refine wpAnyH_ready (rs := [39]) (by kernel_rfl) (by simp) ?_
        refine AllReadyH.cons (o := { dst := some 89, op := Go.Op.call { callee := Go.Callee.value (Go.Operand.func 25), args := #[Go.Operand.tmp 87, Go.Operand.tmp 88], argTypes := #[47, 9] }, type := 4, pos := "law.go:77", after := #[{ on := 37, ground := Go.Ground.data }, { on := 38, ground := Go.Ground.data }, { on := 36, ground := Go.Ground.chain }, { on := 36, ground := Go.Ground.guard }], guard := some (36, true) }) rfl (fun K hK => ?_) AllReadyH.nil
        go_simp
        (first
          | (go_at_call 23; with_reducible refine (HL.out.1 _ (And.left (by assumption))).mono ?_; rintro e w20 ⟨rfl, hj20⟩)
          | (go_at_call 23; with_reducible refine (HL.out.2.1 _ (And.left (by assumption))).mono ?_; rintro e w20 ⟨rfl, hj20⟩)
          | (go_at_call 23; with_reducible refine (HL.out.2.2.1 _ (And.left (by assumption))).mono ?_; rintro e w20 ⟨rfl, hj20⟩)
          | (go_at_call 23; with_reducible refine (HSO.out _ _ _ _ (by assumption) (And.left (by assumption))).mono ?_; rintro e w20 ⟨rfl, hj20⟩)
          | (go_at_call 24; with_reducible refine (HL.out.2.2.2.1 _ (And.left (by assumption))).mono ?_; rintro e w20 ⟨rfl, hj20⟩)
          | (go_at_call 24; with_reducible refine (HL.out.2.2.2.2.1 _ (And.left (by assumption))).mono ?_; rintro e w20 ⟨rfl, hj20⟩)
          | (go_at_call 24; with_reducible refine (HL.out.2.2.2.2.2.1 _ (And.left (by assumption))).mono ?_; rintro e w20 ⟨rfl, hj20⟩)
          | (go_at_call 25; with_reducible refine (HL.out.2.2.2.2.2.2.1 _ (And.left (by assumption))).mono ?_; rintro e w20 ⟨rfl, hj20⟩)
          | (go_at_call 25; with_reducible refine (HL.out.2.2.2.2.2.2.2.1 _ (And.left (by assumption))).mono ?_; rintro e w20 ⟨rfl, hj20⟩)
          | (go_at_call 18; with_reducible refine (HL.out.2.2.2.2.2.2.2.2.1 _ (by assumption)).mono ?_; rintro e w20 ⟨v20, rfl, hs20, hj20⟩)
          | (go_at_call 20; with_reducible refine (HL.out.2.2.2.2.2.2.2.2.2 _ (And.left (by assumption))).mono ?_; rintro e w20 ⟨rfl, hj20⟩))
        go_wp2_with fail
        refine hK.out _ _ ?_ (fun hHeld9 => ?_)
        · (try dsimp only); (first | assumption | exact JJ.all (by assumption) | exact JJ.all (JJ.drew (And.left (by assumption))) | exact JJ.all (JJ.drew (by assumption)))
        clear hK K hHeld8
        try simp only [Act.put, List.setIfInBounds_toArray, List.set_cons_zero, List.set_cons_succ]
        refine wpAnyH_take (i := 42) (oi := { dst := some 92, op := Go.Op.binOp Go.BinOp.eql 4 (Go.Operand.tmp 89) (Go.Operand.tmp 91) 4, type := 4, pos := "law.go:77", after := #[{ on := 39, ground := Go.Ground.data }, { on := 41, ground := Go.Ground.data }, { on := 36, ground := Go.Ground.guard }], guard := some (36, true) }) (v := ?_) rfl (by kernel_rfl) (by kernel_rfl) (by kernel_rfl) (fun _ _ _ h => h) (Or.inl ⟨by rfl, ?_⟩) (by assumption) ?_
        rotate_left 1
        · intro w hSw; (try dsimp only at hSw); go_simp; try with_reducible rfl
        try simp only [Act.put, List.setIfInBounds_toArray, List.set_cons_zero, List.set_cons_succ]
        refine wpAnyH_take (i := 43) (oi := { dst := some 93, op := Go.Op.pick (Go.Operand.tmp 86) (Go.Operand.tmp 92) (Go.Operand.const (Go.Value.bool false)), type := 4, pos := "law.go:77", after := #[{ on := 36, ground := Go.Ground.data }, { on := 42, ground := Go.Ground.data }], guard := none }) (v := ?_) rfl (by kernel_rfl) (by kernel_rfl) (by kernel_rfl) (fun _ _ _ h => h) (Or.inl ⟨by rfl, ?_⟩) (by assumption) ?_
        rotate_left 1
        · intro w hSw; (try dsimp only at hSw); go_simp; try with_reducible rfl
        try simp only [Act.put, List.setIfInBounds_toArray, List.set_cons_zero, List.set_cons_succ]
        refine wpAnyH_take (i := 44) (oi := { dst := some 94, op := Go.Op.move (Go.Operand.tmp 93), type := 4, pos := "law.go:77", after := #[{ on := 43, ground := Go.Ground.data }, { on := 39, ground := Go.Ground.chain }], guard := none }) (v := ?_) rfl (by kernel_rfl) (by kernel_rfl) (by kernel_rfl) (fun _ _ _ h => h) (Or.inl ⟨by rfl, ?_⟩) (by assumption) ?_
        rotate_left 1
        · intro w hSw; (try dsimp only at hSw); go_simp; try with_reducible rfl
        try simp only [Act.put, List.setIfInBounds_toArray, List.set_cons_zero, List.set_cons_succ]
        refine wpAnyH_take (i := 45) (oi := { dst := some 95, op := Go.Op.load 47 (Go.Operand.tmp 7), type := 47, pos := "law.go:77", after := #[{ on := 44, ground := Go.Ground.guard }], guard := some (44, true) }) (v := ?_) rfl (by kernel_rfl) (by kernel_rfl) (by kernel_rfl) (fun _ _ _ h => h) (Or.inl ⟨by rfl, ?_⟩) (by assumption) ?_
        rotate_left 1
        · intro w hSw; (try dsimp only at hSw); go_simp; try with_reducible rfl
        try simp only [Act.put, List.setIfInBounds_toArray, List.set_cons_zero, List.set_cons_succ]
        refine wpAnyH_take (i := 46) (oi := { dst := some 96, op := Go.Op.load 47 (Go.Operand.tmp 8), type := 47, pos := "law.go:77", after := #[{ on := 44, ground := Go.Ground.guard }], guard := some (44, true) }) (v := ?_) rfl (by kernel_rfl) (by kernel_rfl) (by kernel_rfl) (fun _ _ _ h => h) (Or.inl ⟨by rfl, ?_⟩) (by assumption) ?_
        rotate_left 1
        · intro w hSw; (try dsimp only at hSw); go_simp; try with_reducible rfl
        try simp only [Act.put, List.setIfInBounds_toArray, List.set_cons_zero, List.set_cons_succ]
        refine wpAnyH_take (i := 48) (oi := { dst := some 98, op := Go.Op.load 47 (Go.Operand.tmp 9), type := 47, pos := "law.go:77", after := #[{ on := 44, ground := Go.Ground.guard }], guard := some (44, true) }) (v := ?_) rfl (by kernel_rfl) (by kernel_rfl) (by kernel_rfl) (fun _ _ _ h => h) (Or.inl ⟨by rfl, ?_⟩) (by assumption) ?_
        rotate_left 1
        · intro w hSw; (try dsimp only at hSw); go_simp; try with_reducible rfl
        try simp only [Act.put, List.setIfInBounds_toArray, List.set_cons_zero, List.set_cons_succ]
        refine wpAnyH_take (i := 50) (oi := { dst := some 100, op := Go.Op.load 47 (Go.Operand.tmp 7), type := 47, pos := "law.go:77", after := #[{ on := 44, ground := Go.Ground.guard }], guard := some (44, true) }) (v := ?_) rfl (by kernel_rfl) (by kernel_rfl) (by kernel_rfl) (fun _ _ _ h => h) (Or.inl ⟨by rfl, ?_⟩) (by assumption) ?_
        rotate_left 1
        · intro w hSw; (try dsimp only at hSw); go_simp; try with_reducible rfl
        try simp only [Act.put, List.setIfInBounds_toArray, List.set_cons_zero, List.set_cons_succ]
        refine wpAnyH_ready (rs := [47]) (by kernel_rfl) (by simp) ?_
        refine AllReadyH.cons (o := { dst := some 97, op := Go.Op.call { callee := Go.Callee.value (Go.Operand.func 23), args := #[Go.Operand.tmp 95, Go.Operand.tmp 96], argTypes := #[47, 47] }, type := 4, pos := "law.go:77", after := #[{ on := 45, ground := Go.Ground.data }, { on := 46, ground := Go.Ground.data }, { on := 44, ground := Go.Ground.chain }, { on := 44, ground := Go.Ground.guard }], guard := some (44, true) }) rfl (fun K hK => ?_) AllReadyH.nil
        go_simp
        (first
          | (go_at_call 23; with_reducible refine (HL.out.1 _ (And.left (by assumption))).mono ?_; rintro e w20 ⟨rfl, hj20⟩)
          | (go_at_call 23; with_reducible refine (HL.out.2.1 _ (And.left (by assumption))).mono ?_; rintro e w20 ⟨rfl, hj20⟩)
          | (go_at_call 23; with_reducible refine (HL.out.2.2.1 _ (And.left (by assumption))).mono ?_; rintro e w20 ⟨rfl, hj20⟩)
          | (go_at_call 23; with_reducible refine (HSO.out _ _ _ _ (by assumption) (And.left (by assumption))).mono ?_; rintro e w20 ⟨rfl, hj20⟩)
          | (go_at_call 24; with_reducible refine (HL.out.2.2.2.1 _ (And.left (by assumption))).mono ?_; rintro e w20 ⟨rfl, hj20⟩)
          | (go_at_call 24; with_reducible refine (HL.out.2.2.2.2.1 _ (And.left (by assumption))).mono ?_; rintro e w20 ⟨rfl, hj20⟩)
          | (go_at_call 24; with_reducible refine (HL.out.2.2.2.2.2.1 _ (And.left (by assumption))).mono ?_; rintro e w20 ⟨rfl, hj20⟩)
          | (go_at_call 25; with_reducible refine (HL.out.2.2.2.2.2.2.1 _ (And.left (by assumption))).mono ?_; rintro e w20 ⟨rfl, hj20⟩)
          | (go_at_call 25; with_reducible refine (HL.out.2.2.2.2.2.2.2.1 _ (And.left (by assumption))).mono ?_; rintro e w20 ⟨rfl, hj20⟩)
          | (go_at_call 18; with_reducible refine (HL.out.2.2.2.2.2.2.2.2.1 _ (by assumption)).mono ?_; rintro e w20 ⟨v20, rfl, hs20, hj20⟩)
          | (go_at_call 20; with_reducible refine (HL.out.2.2.2.2.2.2.2.2.2 _ (And.left (by assumption))).mono ?_; rintro e w20 ⟨rfl, hj20⟩))
        go_wp2_with fail
        refine hK.out _ _ ?_ (fun hHeld10 => ?_)
        · (try dsimp only); (first | assumption | exact JJ.all (by assumption) | exact JJ.all (JJ.drew (And.left (by assumption))) | exact JJ.all (JJ.drew (by assumption)))
        clear hK K hHeld9
        try simp only [Act.put, List.setIfInBounds_toArray, List.set_cons_zero, List.set_cons_succ]
        refine wpAnyH_ready (rs := [49]) (by kernel_rfl) (by simp) ?_
        refine AllReadyH.cons (o := { dst := some 99, op := Go.Op.call { callee := Go.Callee.value (Go.Operand.func 24), args := #[Go.Operand.tmp 98], argTypes := #[47] }, type := 3, pos := "law.go:77", after := #[{ on := 48, ground := Go.Ground.data }, { on := 47, ground := Go.Ground.chain }, { on := 44, ground := Go.Ground.guard }], guard := some (44, true) }) rfl (fun K hK => ?_) AllReadyH.nil
        go_simp
        (first
          | (go_at_call 23; with_reducible refine (HL.out.1 _ (And.left (by assumption))).mono ?_; rintro e w20 ⟨rfl, hj20⟩)
          | (go_at_call 23; with_reducible refine (HL.out.2.1 _ (And.left (by assumption))).mono ?_; rintro e w20 ⟨rfl, hj20⟩)
          | (go_at_call 23; with_reducible refine (HL.out.2.2.1 _ (And.left (by assumption))).mono ?_; rintro e w20 ⟨rfl, hj20⟩)
          | (go_at_call 23; with_reducible refine (HSO.out _ _ _ _ (by assumption) (And.left (by assumption))).mono ?_; rintro e w20 ⟨rfl, hj20⟩)
          | (go_at_call 24; with_reducible refine (HL.out.2.2.2.1 _ (And.left (by assumption))).mono ?_; rintro e w20 ⟨rfl, hj20⟩)
          | (go_at_call 24; with_reducible refine (HL.out.2.2.2.2.1 _ (And.left (by assumption))).mono ?_; rintro e w20 ⟨rfl, hj20⟩)
          | (go_at_call 24; with_reducible refine (HL.out.2.2.2.2.2.1 _ (And.left (by assumption))).mono ?_; rintro e w20 ⟨rfl, hj20⟩)
          | (go_at_call 25; with_reducible refine (HL.out.2.2.2.2.2.2.1 _ (And.left (by assumption))).mono ?_; rintro e w20 ⟨rfl, hj20⟩)
          | (go_at_call 25; with_reducible refine (HL.out.2.2.2.2.2.2.2.1 _ (And.left (by assumption))).mono ?_; rintro e w20 ⟨rfl, hj20⟩)
          | (go_at_call 18; with_reducible refine (HL.out.2.2.2.2.2.2.2.2.1 _ (by assumption)).mono ?_; rintro e w20 ⟨v20, rfl, hs20, hj20⟩)
          | (go_at_call 20; with_reducible refine (HL.out.2.2.2.2.2.2.2.2.2 _ (And.left (by assumption))).mono ?_; rintro e w20 ⟨rfl, hj20⟩))
        go_wp2_with fail
        refine hK.out _ _ ?_ (fun hHeld11 => ?_)
        · (try dsimp only); (first | assumption | exact JJ.all (by assumption) | exact JJ.all (JJ.drew (And.left (by assumption))) | exact JJ.all (JJ.drew (by assumption)))
        clear hK K hHeld10
        try simp only [Act.put, List.setIfInBounds_toArray, List.set_cons_zero, List.set_cons_succ]
        refine wpAnyH_ready (rs := [51]) (by kernel_rfl) (by simp) ?_
        refine AllReadyH.cons (o := { dst := some 101, op := Go.Op.call { callee := Go.Callee.value (Go.Operand.func 24), args := #[Go.Operand.tmp 100], argTypes := #[47] }, type := 3, pos := "law.go:77", after := #[{ on := 50, ground := Go.Ground.data }, { on := 49, ground := Go.Ground.chain }, { on := 44, ground := Go.Ground.guard }], guard := some (44, true) }) rfl (fun K hK => ?_) AllReadyH.nil
        go_simp
        (first
          | (go_at_call 23; with_reducible refine (HL.out.1 _ (And.left (by assumption))).mono ?_; rintro e w20 ⟨rfl, hj20⟩)
          | (go_at_call 23; with_reducible refine (HL.out.2.1 _ (And.left (by assumption))).mono ?_; rintro e w20 ⟨rfl, hj20⟩)
          | (go_at_call 23; with_reducible refine (HL.out.2.2.1 _ (And.left (by assumption))).mono ?_; rintro e w20 ⟨rfl, hj20⟩)
          | (go_at_call 23; with_reducible refine (HSO.out _ _ _ _ (by assumption) (And.left (by assumption))).mono ?_; rintro e w20 ⟨rfl, hj20⟩)
          | (go_at_call 24; with_reducible refine (HL.out.2.2.2.1 _ (And.left (by assumption))).mono ?_; rintro e w20 ⟨rfl, hj20⟩)
          | (go_at_call 24; with_reducible refine (HL.out.2.2.2.2.1 _ (And.left (by assumption))).mono ?_; rintro e w20 ⟨rfl, hj20⟩)
          | (go_at_call 24; with_reducible refine (HL.out.2.2.2.2.2.1 _ (And.left (by assumption))).mono ?_; rintro e w20 ⟨rfl, hj20⟩)
          | (go_at_call 25; with_reducible refine (HL.out.2.2.2.2.2.2.1 _ (And.left (by assumption))).mono ?_; rintro e w20 ⟨rfl, hj20⟩)
          | (go_at_call 25; with_reducible refine (HL.out.2.2.2.2.2.2.2.1 _ (And.left (by assumption))).mono ?_; rintro e w20 ⟨rfl, hj20⟩)
          | (go_at_call 18; with_reducible refine (HL.out.2.2.2.2.2.2.2.2.1 _ (by assumption)).mono ?_; rintro e w20 ⟨v20, rfl, hs20, hj20⟩)
          | (go_at_call 20; with_reducible refine (HL.out.2.2.2.2.2.2.2.2.2 _ (And.left (by assumption))).mono ?_; rintro e w20 ⟨rfl, hj20⟩))
        go_wp2_with fail
        refine hK.out _ _ ?_ (fun hHeld12 => ?_)
        · (try dsimp only); (first | assumption | exact JJ.all (by assumption) | exact JJ.all (JJ.drew (And.left (by assumption))) | exact JJ.all (JJ.drew (by assumption)))
        clear hK K hHeld11
        try simp only [Act.put, List.setIfInBounds_toArray, List.set_cons_zero, List.set_cons_succ]
        refine wpAnyH_take (i := 52) (oi := { dst := some 102, op := Go.Op.binOp Go.BinOp.eql 3 (Go.Operand.tmp 99) (Go.Operand.tmp 101) 3, type := 4, pos := "law.go:77", after := #[{ on := 49, ground := Go.Ground.data }, { on := 51, ground := Go.Ground.data }, { on := 44, ground := Go.Ground.guard }], guard := some (44, true) }) (v := ?_) rfl (by kernel_rfl) (by kernel_rfl) (by kernel_rfl) (fun _ _ _ h => h) (Or.inl ⟨by rfl, ?_⟩) (by assumption) ?_
        rotate_left 1
        · intro w hSw; (try dsimp only at hSw); go_simp; try with_reducible rfl
        try simp only [Act.put, List.setIfInBounds_toArray, List.set_cons_zero, List.set_cons_succ]
        refine wpAnyH_take (i := 53) (oi := { dst := some 103, op := Go.Op.move (Go.Operand.tmp 102), type := 4, pos := "law.go:77", after := #[{ on := 52, ground := Go.Ground.data }, { on := 51, ground := Go.Ground.chain }, { on := 44, ground := Go.Ground.guard }], guard := some (44, true) }) (v := ?_) rfl (by kernel_rfl) (by kernel_rfl) (by kernel_rfl) (fun _ _ _ h => h) (Or.inl ⟨by rfl, ?_⟩) (by assumption) ?_
        rotate_left 1
        · intro w hSw; (try dsimp only at hSw); go_simp; try with_reducible rfl
        try simp only [Act.put, List.setIfInBounds_toArray, List.set_cons_zero, List.set_cons_succ]
        refine wpAnyH_take (i := 54) (oi := { dst := some 104, op := Go.Op.load 47 (Go.Operand.tmp 9), type := 47, pos := "law.go:77", after := #[{ on := 53, ground := Go.Ground.guard }], guard := some (53, true) }) (v := undef) rfl (by kernel_rfl) (by kernel_rfl) (by kernel_rfl) (fun _ _ _ h => h) (Or.inr ⟨by rfl, rfl⟩) (by assumption) ?_
        try simp only [Act.put, List.setIfInBounds_toArray, List.set_cons_zero, List.set_cons_succ]
        refine wpAnyH_take (i := 55) (oi := { dst := some 105, op := Go.Op.call { callee := Go.Callee.value (Go.Operand.func 24), args := #[Go.Operand.tmp 104], argTypes := #[47] }, type := 3, pos := "law.go:77", after := #[{ on := 54, ground := Go.Ground.data }, { on := 53, ground := Go.Ground.chain }, { on := 53, ground := Go.Ground.guard }], guard := some (53, true) }) (v := undef) rfl (by kernel_rfl) (by kernel_rfl) (by kernel_rfl) (fun _ _ _ h => h) (Or.inr ⟨by rfl, rfl⟩) (by assumption) ?_
        try simp only [Act.put, List.setIfInBounds_toArray, List.set_cons_zero, List.set_cons_succ]
        refine wpAnyH_take (i := 56) (oi := { dst := some 106, op := Go.Op.load 47 (Go.Operand.tmp 8), type := 47, pos := "law.go:77", after := #[{ on := 53, ground := Go.Ground.guard }], guard := some (53, true) }) (v := undef) rfl (by kernel_rfl) (by kernel_rfl) (by kernel_rfl) (fun _ _ _ h => h) (Or.inr ⟨by rfl, rfl⟩) (by assumption) ?_
        try simp only [Act.put, List.setIfInBounds_toArray, List.set_cons_zero, List.set_cons_succ]
        refine wpAnyH_take (i := 57) (oi := { dst := some 107, op := Go.Op.call { callee := Go.Callee.value (Go.Operand.func 24), args := #[Go.Operand.tmp 106], argTypes := #[47] }, type := 3, pos := "law.go:77", after := #[{ on := 56, ground := Go.Ground.data }, { on := 55, ground := Go.Ground.chain }, { on := 53, ground := Go.Ground.guard }], guard := some (53, true) }) (v := undef) rfl (by kernel_rfl) (by kernel_rfl) (by kernel_rfl) (fun _ _ _ h => h) (Or.inr ⟨by rfl, rfl⟩) (by assumption) ?_
        try simp only [Act.put, List.setIfInBounds_toArray, List.set_cons_zero, List.set_cons_succ]
        refine wpAnyH_take (i := 58) (oi := { dst := some 108, op := Go.Op.binOp Go.BinOp.eql 3 (Go.Operand.tmp 105) (Go.Operand.tmp 107) 3, type := 4, pos := "law.go:77", after := #[{ on := 55, ground := Go.Ground.data }, { on := 57, ground := Go.Ground.data }, { on := 53, ground := Go.Ground.guard }], guard := some (53, true) }) (v := undef) rfl (by kernel_rfl) (by kernel_rfl) (by kernel_rfl) (fun _ _ _ h => h) (Or.inr ⟨by rfl, rfl⟩) (by assumption) ?_
        try simp only [Act.put, List.setIfInBounds_toArray, List.set_cons_zero, List.set_cons_succ]
        refine wpAnyH_take (i := 59) (oi := { dst := some 109, op := Go.Op.pick (Go.Operand.tmp 103) (Go.Operand.tmp 108) (Go.Operand.const (Go.Value.bool false)), type := 4, pos := "law.go:77", after := #[{ on := 53, ground := Go.Ground.data }, { on := 58, ground := Go.Ground.data }, { on := 44, ground := Go.Ground.guard }], guard := some (44, true) }) (v := ?_) rfl (by kernel_rfl) (by kernel_rfl) (by kernel_rfl) (fun _ _ _ h => h) (Or.inl ⟨by rfl, ?_⟩) (by assumption) ?_
        rotate_left 1
        · intro w hSw; (try dsimp only at hSw); go_simp; try with_reducible rfl
        try simp only [Act.put, List.setIfInBounds_toArray, List.set_cons_zero, List.set_cons_succ]
        refine wpAnyH_take (i := 60) (oi := { dst := some 110, op := Go.Op.binOp Go.BinOp.eql 4 (Go.Operand.tmp 97) (Go.Operand.tmp 109) 4, type := 4, pos := "law.go:77", after := #[{ on := 47, ground := Go.Ground.data }, { on := 59, ground := Go.Ground.data }, { on := 44, ground := Go.Ground.guard }], guard := some (44, true) }) (v := ?_) rfl (by kernel_rfl) (by kernel_rfl) (by kernel_rfl) (fun _ _ _ h => h) (Or.inl ⟨by rfl, ?_⟩) (by assumption) ?_
        rotate_left 1
        · intro w hSw; (try dsimp only at hSw); go_simp; try with_reducible rfl
        try simp only [Act.put, List.setIfInBounds_toArray, List.set_cons_zero, List.set_cons_succ]
        refine wpAnyH_take (i := 61) (oi := { dst := some 111, op := Go.Op.pick (Go.Operand.tmp 94) (Go.Operand.tmp 110) (Go.Operand.const (Go.Value.bool false)), type := 4, pos := "law.go:77", after := #[{ on := 44, ground := Go.Ground.data }, { on := 60, ground := Go.Ground.data }], guard := none }) (v := ?_) rfl (by kernel_rfl) (by kernel_rfl) (by kernel_rfl) (fun _ _ _ h => h) (Or.inl ⟨by rfl, ?_⟩) (by assumption) ?_
        rotate_left 1
        · intro w hSw; (try dsimp only at hSw); go_simp; try with_reducible rfl
        try simp only [Act.put, List.setIfInBounds_toArray, List.set_cons_zero, List.set_cons_succ]
        refine wpAnyH_take (i := 62) (oi := { dst := some 6, op := Go.Op.assign (Go.Operand.tmp 111), type := 4, pos := "law.go:77", after := #[{ on := 61, ground := Go.Ground.data }, { on := 57, ground := Go.Ground.chain }, { on := 0, ground := Go.Ground.phase }, { on := 1, ground := Go.Ground.phase }, { on := 2, ground := Go.Ground.phase }, { on := 3, ground := Go.Ground.phase }, { on := 4, ground := Go.Ground.phase }, { on := 5, ground := Go.Ground.phase }, { on := 6, ground := Go.Ground.phase }, { on := 7, ground := Go.Ground.phase }, { on := 8, ground := Go.Ground.phase }, { on := 9, ground := Go.Ground.phase }, { on := 10, ground := Go.Ground.phase }, { on := 11, ground := Go.Ground.phase }, { on := 12, ground := Go.Ground.phase }, { on := 13, ground := Go.Ground.phase }, { on := 14, ground := Go.Ground.phase }, { on := 15, ground := Go.Ground.phase }, { on := 16, ground := Go.Ground.phase }, { on := 17, ground := Go.Ground.phase }, { on := 18, ground := Go.Ground.phase }, { on := 19, ground := Go.Ground.phase }, { on := 20, ground := Go.Ground.phase }, { on := 21, ground := Go.Ground.phase }, { on := 22, ground := Go.Ground.phase }, { on := 23, ground := Go.Ground.phase }, { on := 24, ground := Go.Ground.phase }, { on := 25, ground := Go.Ground.phase }, { on := 26, ground := Go.Ground.phase }, { on := 27, ground := Go.Ground.phase }, { on := 28, ground := Go.Ground.phase }, { on := 29, ground := Go.Ground.phase }, { on := 30, ground := Go.Ground.phase }, { on := 31, ground := Go.Ground.phase }, { on := 32, ground := Go.Ground.phase }, { on := 33, ground := Go.Ground.phase }, { on := 34, ground := Go.Ground.phase }, { on := 35, ground := Go.Ground.phase }, { on := 36, ground := Go.Ground.phase }, { on := 37, ground := Go.Ground.phase }, { on := 38, ground := Go.Ground.phase }, { on := 39, ground := Go.Ground.phase }, { on := 40, ground := Go.Ground.phase }, { on := 41, ground := Go.Ground.phase }, { on := 42, ground := Go.Ground.phase }, { on := 43, ground := Go.Ground.phase }, { on := 44, ground := Go.Ground.phase }, { on := 45, ground := Go.Ground.phase }, { on := 46, ground := Go.Ground.phase }, { on := 47, ground := Go.Ground.phase }, { on := 48, ground := Go.Ground.phase }, { on := 49, ground := Go.Ground.phase }, { on := 50, ground := Go.Ground.phase }, { on := 51, ground := Go.Ground.phase }, { on := 52, ground := Go.Ground.phase }, { on := 53, ground := Go.Ground.phase }, { on := 54, ground := Go.Ground.phase }, { on := 55, ground := Go.Ground.phase }, { on := 56, ground := Go.Ground.phase }, { on := 57, ground := Go.Ground.phase }, { on := 58, ground := Go.Ground.phase }, { on := 59, ground := Go.Ground.phase }, { on := 60, ground := Go.Ground.phase }, { on := 61, ground := Go.Ground.phase }], guard := none }) (v := ?_) rfl (by kernel_rfl) (by kernel_rfl) (by kernel_rfl) (fun _ _ _ h => h) (Or.inl ⟨by rfl, ?_⟩) (by assumption) ?_
        rotate_left 1
        · intro w hSw; (try dsimp only at hSw); go_simp; try with_reducible rfl
        try simp only [Act.put, List.setIfInBounds_toArray, List.set_cons_zero, List.set_cons_succ]
        refine wpAnyH_done (by kernel_rfl) ?_ _
        have hfin := hHeld12
        have hbel := (And.left (And.left hfin)).below
        have HBE := Lib.hid hbel
        clear hfin hbel hS
        go_wp2
        go_ret
        exact ⟨rfl, by rw [HB.out]; exact HBE.out⟩
    · have hxI : decide ((0 : Int) < (xs.length : Int)) = false := decide_eq_false (by omega)
      have hxN : decide (0 < xs.length) = false := decide_eq_false (by omega)
      clear hxl hc0 hsl
      go_wp2_with fail
      have hx5 := HXS.out
      have hv5 := HVS.out
      have hj := HJ16.out
      have he1 : decide (joinL xs ys = vs) = true := decide_eq_true (by rw [← hx5.1, ← hx5.2, ← hv5]; exact join_of la lb)
      have he2 : decide ((xs.length : Int) < ((joinL xs ys).length : Int)) = decide (xs.length < (joinL xs ys).length) := by
        by_cases h : xs.length < (joinL xs ys).length
        · rw [decide_eq_true h]; exact decide_eq_true (by omega)
        · rw [decide_eq_false h]; exact decide_eq_false (by omega)
      have he3 : decide (xs = ofLS la) = true := decide_eq_true hx5.1.symm
      have he4 := ins_eq x vs
      have he5 : decide (x ∈ ins ltS x vs) = true := decide_eq_true ((mem_ins x x vs).2 (.inl rfl))
      have hsi := same_iff xs ys hj.bs.set.srt hj.bt.set.srt
      have hsub : ∀ y ∈ ys, y ∈ joinL xs ys := fun y hy => (mem_joinS xs ys y).2 (.inr hy)
      have hla := h1
      have hul : (joinL xs ys).length ≤ 60 := by have := (joinL_len xs ys).2; omega
      have hnl : (ins ltS x vs).length ≤ 1048576 := by have := length_ins (lt := ltS) x vs; split at this <;> omega
      have HL := Lib.hid (And.intro (fun W (h : JJ w B z pu pv pw (.slice A3 xs.length c3) (.slice A4 ys.length c4) (.slice A6 (joinL xs ys).length c6) (.slice A8 vs.length c8) (.slice A10 (ins ltS x vs).length c10) xs ys (joinL xs ys) vs (ins ltS x vs) A1 la W) => jj_same_uv h) (And.intro (fun W (h : JJ w B z pu pv pw (.slice A3 xs.length c3) (.slice A4 ys.length c4) (.slice A6 (joinL xs ys).length c6) (.slice A8 vs.length c8) (.slice A10 (ins ltS x vs).length c10) xs ys (joinL xs ys) vs (ins ltS x vs) A1 la W) => jj_same_wv h) (And.intro (fun W (h : JJ w B z pu pv pw (.slice A3 xs.length c3) (.slice A4 ys.length c4) (.slice A6 (joinL xs ys).length c6) (.slice A8 vs.length c8) (.slice A10 (ins ltS x vs).length c10) xs ys (joinL xs ys) vs (ins ltS x vs) A1 la W) => jj_same_st h) (And.intro (fun W (h : JJ w B z pu pv pw (.slice A3 xs.length c3) (.slice A4 ys.length c4) (.slice A6 (joinL xs ys).length c6) (.slice A8 vs.length c8) (.slice A10 (ins ltS x vs).length c10) xs ys (joinL xs ys) vs (ins ltS x vs) A1 la W) => jj_len_u h) (And.intro (fun W (h : JJ w B z pu pv pw (.slice A3 xs.length c3) (.slice A4 ys.length c4) (.slice A6 (joinL xs ys).length c6) (.slice A8 vs.length c8) (.slice A10 (ins ltS x vs).length c10) xs ys (joinL xs ys) vs (ins ltS x vs) A1 la W) => jj_len_s h) (And.intro (fun W (h : JJ w B z pu pv pw (.slice A3 xs.length c3) (.slice A4 ys.length c4) (.slice A6 (joinL xs ys).length c6) (.slice A8 vs.length c8) (.slice A10 (ins ltS x vs).length c10) xs ys (joinL xs ys) vs (ins ltS x vs) A1 la W) => jj_len_t h) (And.intro (fun W (h : JJ w B z pu pv pw (.slice A3 xs.length c3) (.slice A4 ys.length c4) (.slice A6 (joinL xs ys).length c6) (.slice A8 vs.length c8) (.slice A10 (ins ltS x vs).length c10) xs ys (joinL xs ys) vs (ins ltS x vs) A1 la W) => jj_has_v x (by omega) h) (And.intro (fun W (h : JJ w B z pu pv pw (.slice A3 xs.length c3) (.slice A4 ys.length c4) (.slice A6 (joinL xs ys).length c6) (.slice A8 vs.length c8) (.slice A10 (ins ltS x vs).length c10) xs ys (joinL xs ys) vs (ins ltS x vs) A1 la W) => jj_has_w x hnl h) (And.intro (fun W (h : JJ w B z pu pv pw (.slice A3 xs.length c3) (.slice A4 ys.length c4) (.slice A6 (joinL xs ys).length c6) (.slice A8 vs.length c8) (.slice A10 (ins ltS x vs).length c10) xs ys (joinL xs ys) vs (ins ltS x vs) A1 la W) => jj_of c1 (by omega) h) (fun W (h : JJ w B z pu pv pw (.slice A3 xs.length c3) (.slice A4 ys.length c4) (.slice A6 (joinL xs ys).length c6) (.slice A8 vs.length c8) (.slice A10 (ins ltS x vs).length c10) xs ys (joinL xs ys) vs (ins ltS x vs) A1 la W) => jj_join (by omega) hsub h))))))))))
      have HSO := Lib.hid (fun W v20 b20 l20 (hs : IsSetS W b20 v20 l20) (h : JJ w B z pu pv pw (.slice A3 xs.length c3) (.slice A4 ys.length c4) (.slice A6 (joinL xs ys).length c6) (.slice A8 vs.length c8) (.slice A10 (ins ltS x vs).length c10) xs ys (joinL xs ys) vs (ins ltS x vs) A1 la W) => jj_same_so v20 b20 l20 hs h)
      have hS := (hj.jj HA.out.1).all
      by_cases hg1 : (joinL xs ys).length = xs.length
      · have hg2 : (((joinL xs ys).length : Int) == (xs.length : Int)) = true := by simp [hg1]
        have he8 : decide (xs = ys) = (((joinL xs ys).length : Int) == (ys.length : Int)) := by
          by_cases h : (joinL xs ys).length = ys.length
          · rw [decide_eq_true (hsi.2 ⟨hg1, h⟩)]; simp [h]
          · rw [decide_eq_false (fun e => h (hsi.1 e).2)]; symm; simp; omega
        clear hsi hg1 hx5 hv5 hsub HXS HVS hj hnl
        go_region_held3 (fun W => JJ w B z pu pv pw (.slice A3 xs.length c3) (.slice A4 ys.length c4) (.slice A6 (joinL xs ys).length c6) (.slice A8 vs.length c8) (.slice A10 (ins ltS x vs).length c10) xs ys (joinL xs ys) vs (ins ltS x vs) A1 la W ∧ W.cell? ⟨z, 0, none⟩ = some (.slice A3 xs.length c3) ∧ W.cell? ⟨z + 1, 0, none⟩ = some (.slice A4 ys.length c4) ∧ W.cell? ⟨pu, 0, none⟩ = some (.slice A6 (joinL xs ys).length c6) ∧ W.cell? ⟨pv, 0, none⟩ = some (.slice A8 vs.length c8) ∧ W.cell? ⟨pw, 0, none⟩ = some (.slice A10 (ins ltS x vs).length c10))
          (first | assumption | exact JJ.all (by assumption) | exact JJ.all (JJ.drew (And.left (by assumption))) | exact JJ.all (JJ.drew (by assumption)))
          (first
            | (go_at_call 23; with_reducible refine (HL.out.1 _ (And.left (by assumption))).mono ?_; rintro e w20 ⟨rfl, hj20⟩)
            | (go_at_call 23; with_reducible refine (HL.out.2.1 _ (And.left (by assumption))).mono ?_; rintro e w20 ⟨rfl, hj20⟩)
            | (go_at_call 23; with_reducible refine (HL.out.2.2.1 _ (And.left (by assumption))).mono ?_; rintro e w20 ⟨rfl, hj20⟩)
            | (go_at_call 23; with_reducible refine (HSO.out _ _ _ _ (by assumption) (And.left (by assumption))).mono ?_; rintro e w20 ⟨rfl, hj20⟩)
            | (go_at_call 24; with_reducible refine (HL.out.2.2.2.1 _ (And.left (by assumption))).mono ?_; rintro e w20 ⟨rfl, hj20⟩)
            | (go_at_call 24; with_reducible refine (HL.out.2.2.2.2.1 _ (And.left (by assumption))).mono ?_; rintro e w20 ⟨rfl, hj20⟩)
            | (go_at_call 24; with_reducible refine (HL.out.2.2.2.2.2.1 _ (And.left (by assumption))).mono ?_; rintro e w20 ⟨rfl, hj20⟩)
            | (go_at_call 25; with_reducible refine (HL.out.2.2.2.2.2.2.1 _ (And.left (by assumption))).mono ?_; rintro e w20 ⟨rfl, hj20⟩)
            | (go_at_call 25; with_reducible refine (HL.out.2.2.2.2.2.2.2.1 _ (And.left (by assumption))).mono ?_; rintro e w20 ⟨rfl, hj20⟩)
            | (go_at_call 18; with_reducible refine (HL.out.2.2.2.2.2.2.2.2.1 _ (by assumption)).mono ?_; rintro e w20 ⟨v20, rfl, hs20, hj20⟩)
            | (go_at_call 20; with_reducible refine (HL.out.2.2.2.2.2.2.2.2.2 _ (And.left (by assumption))).mono ?_; rintro e w20 ⟨rfl, hj20⟩))
        all_goals
          rename_i hfin
          have hbel := (And.left (And.left hfin)).below
          have HBE := Lib.hid hbel
          clear hfin hbel hS
          go_wp2
          go_ret
          exact ⟨rfl, by rw [HB.out]; exact HBE.out⟩
      · have hg2 : (((joinL xs ys).length : Int) == (xs.length : Int)) = false := by simp; omega
        have he8 : decide (xs = ys) = false := decide_eq_false (fun e => hg1 (hsi.1 e).1)
        clear hsi hg1 hx5 hv5 hsub HXS HVS hj hnl
        refine wp_region_held_drew (S := (fun W => JJ w B z pu pv pw (.slice A3 xs.length c3) (.slice A4 ys.length c4) (.slice A6 (joinL xs ys).length c6) (.slice A8 vs.length c8) (.slice A10 (ins ltS x vs).length c10) xs ys (joinL xs ys) vs (ins ltS x vs) A1 la W ∧ W.cell? ⟨z, 0, none⟩ = some (.slice A3 xs.length c3) ∧ W.cell? ⟨z + 1, 0, none⟩ = some (.slice A4 ys.length c4) ∧ W.cell? ⟨pu, 0, none⟩ = some (.slice A6 (joinL xs ys).length c6) ∧ W.cell? ⟨pv, 0, none⟩ = some (.slice A8 vs.length c8) ∧ W.cell? ⟨pw, 0, none⟩ = some (.slice A10 (ins ltS x vs).length c10))) (by kernel_rfl) (by (first | assumption | exact JJ.all (by assumption) | exact JJ.all (JJ.drew (And.left (by assumption))) | exact JJ.all (JJ.drew (by assumption)))) (fun hHeld => ?_)
        refine wpAnyH_take (i := 0) (oi := { dst := some 50, op := Go.Op.load 47 (Go.Operand.tmp 9), type := 47, pos := "law.go:77", after := #[], guard := none }) (v := ?_) rfl (by kernel_rfl) (by kernel_rfl) (by kernel_rfl) (fun _ _ _ h => h) (Or.inl ⟨by rfl, ?_⟩) (by assumption) ?_
        rotate_left 1
        · intro w hSw; (try dsimp only at hSw); go_simp; try with_reducible rfl
        try simp only [Act.put, List.setIfInBounds_toArray, List.set_cons_zero, List.set_cons_succ]
        refine wpAnyH_take (i := 1) (oi := { dst := some 51, op := Go.Op.load 47 (Go.Operand.tmp 11), type := 47, pos := "law.go:77", after := #[], guard := none }) (v := ?_) rfl (by kernel_rfl) (by kernel_rfl) (by kernel_rfl) (fun _ _ _ h => h) (Or.inl ⟨by rfl, ?_⟩) (by assumption) ?_
        rotate_left 1
        · intro w hSw; (try dsimp only at hSw); go_simp; try with_reducible rfl
        try simp only [Act.put, List.setIfInBounds_toArray, List.set_cons_zero, List.set_cons_succ]
        refine wpAnyH_ready (rs := [2]) (by kernel_rfl) (by simp) ?_
        refine AllReadyH.cons (o := { dst := some 52, op := Go.Op.call { callee := Go.Callee.value (Go.Operand.func 23), args := #[Go.Operand.tmp 50, Go.Operand.tmp 51], argTypes := #[47, 47] }, type := 4, pos := "law.go:77", after := #[{ on := 0, ground := Go.Ground.data }, { on := 1, ground := Go.Ground.data }], guard := none }) rfl (fun K hK => ?_) AllReadyH.nil
        go_simp
        (first
          | (go_at_call 23; with_reducible refine (HL.out.1 _ (And.left (by assumption))).mono ?_; rintro e w20 ⟨rfl, hj20⟩)
          | (go_at_call 23; with_reducible refine (HL.out.2.1 _ (And.left (by assumption))).mono ?_; rintro e w20 ⟨rfl, hj20⟩)
          | (go_at_call 23; with_reducible refine (HL.out.2.2.1 _ (And.left (by assumption))).mono ?_; rintro e w20 ⟨rfl, hj20⟩)
          | (go_at_call 23; with_reducible refine (HSO.out _ _ _ _ (by assumption) (And.left (by assumption))).mono ?_; rintro e w20 ⟨rfl, hj20⟩)
          | (go_at_call 24; with_reducible refine (HL.out.2.2.2.1 _ (And.left (by assumption))).mono ?_; rintro e w20 ⟨rfl, hj20⟩)
          | (go_at_call 24; with_reducible refine (HL.out.2.2.2.2.1 _ (And.left (by assumption))).mono ?_; rintro e w20 ⟨rfl, hj20⟩)
          | (go_at_call 24; with_reducible refine (HL.out.2.2.2.2.2.1 _ (And.left (by assumption))).mono ?_; rintro e w20 ⟨rfl, hj20⟩)
          | (go_at_call 25; with_reducible refine (HL.out.2.2.2.2.2.2.1 _ (And.left (by assumption))).mono ?_; rintro e w20 ⟨rfl, hj20⟩)
          | (go_at_call 25; with_reducible refine (HL.out.2.2.2.2.2.2.2.1 _ (And.left (by assumption))).mono ?_; rintro e w20 ⟨rfl, hj20⟩)
          | (go_at_call 18; with_reducible refine (HL.out.2.2.2.2.2.2.2.2.1 _ (by assumption)).mono ?_; rintro e w20 ⟨v20, rfl, hs20, hj20⟩)
          | (go_at_call 20; with_reducible refine (HL.out.2.2.2.2.2.2.2.2.2 _ (And.left (by assumption))).mono ?_; rintro e w20 ⟨rfl, hj20⟩))
        go_wp2_with fail
        refine hK.out _ _ ?_ (fun hHeld1 => ?_)
        · (try dsimp only); (first | assumption | exact JJ.all (by assumption) | exact JJ.all (JJ.drew (And.left (by assumption))) | exact JJ.all (JJ.drew (by assumption)))
        clear hK K hHeld
        try simp only [Act.put, List.setIfInBounds_toArray, List.set_cons_zero, List.set_cons_succ]
        refine wpAnyH_take (i := 3) (oi := { dst := some 53, op := Go.Op.move (Go.Operand.tmp 52), type := 4, pos := "law.go:77", after := #[{ on := 2, ground := Go.Ground.data }, { on := 2, ground := Go.Ground.chain }], guard := none }) (v := ?_) rfl (by kernel_rfl) (by kernel_rfl) (by kernel_rfl) (fun _ _ _ h => h) (Or.inl ⟨by rfl, ?_⟩) (by assumption) ?_
        rotate_left 1
        · intro w hSw; (try dsimp only at hSw); go_simp; try with_reducible rfl
        try simp only [Act.put, List.setIfInBounds_toArray, List.set_cons_zero, List.set_cons_succ]
        refine wpAnyH_take (i := 4) (oi := { dst := some 54, op := Go.Op.move (Go.Operand.tmp 10), type := 4, pos := "law.go:77", after := #[{ on := 3, ground := Go.Ground.guard }], guard := some (3, true) }) (v := ?_) rfl (by kernel_rfl) (by kernel_rfl) (by kernel_rfl) (fun _ _ _ h => h) (Or.inl ⟨by rfl, ?_⟩) (by assumption) ?_
        rotate_left 1
        · intro w hSw; (try dsimp only at hSw); go_simp; try with_reducible rfl
        try simp only [Act.put, List.setIfInBounds_toArray, List.set_cons_zero, List.set_cons_succ]
        refine wpAnyH_take (i := 5) (oi := { dst := some 55, op := Go.Op.load 47 (Go.Operand.tmp 9), type := 47, pos := "law.go:77", after := #[{ on := 3, ground := Go.Ground.guard }], guard := some (3, true) }) (v := ?_) rfl (by kernel_rfl) (by kernel_rfl) (by kernel_rfl) (fun _ _ _ h => h) (Or.inl ⟨by rfl, ?_⟩) (by assumption) ?_
        rotate_left 1
        · intro w hSw; (try dsimp only at hSw); go_simp; try with_reducible rfl
        try simp only [Act.put, List.setIfInBounds_toArray, List.set_cons_zero, List.set_cons_succ]
        refine wpAnyH_take (i := 7) (oi := { dst := some 57, op := Go.Op.load 47 (Go.Operand.tmp 7), type := 47, pos := "law.go:77", after := #[{ on := 3, ground := Go.Ground.guard }], guard := some (3, true) }) (v := ?_) rfl (by kernel_rfl) (by kernel_rfl) (by kernel_rfl) (fun _ _ _ h => h) (Or.inl ⟨by rfl, ?_⟩) (by assumption) ?_
        rotate_left 1
        · intro w hSw; (try dsimp only at hSw); go_simp; try with_reducible rfl
        try simp only [Act.put, List.setIfInBounds_toArray, List.set_cons_zero, List.set_cons_succ]
        refine wpAnyH_ready (rs := [6]) (by kernel_rfl) (by simp) ?_
        refine AllReadyH.cons (o := { dst := some 56, op := Go.Op.call { callee := Go.Callee.value (Go.Operand.func 24), args := #[Go.Operand.tmp 55], argTypes := #[47] }, type := 3, pos := "law.go:77", after := #[{ on := 5, ground := Go.Ground.data }, { on := 3, ground := Go.Ground.chain }, { on := 3, ground := Go.Ground.guard }], guard := some (3, true) }) rfl (fun K hK => ?_) AllReadyH.nil
        go_simp
        (first
          | (go_at_call 23; with_reducible refine (HL.out.1 _ (And.left (by assumption))).mono ?_; rintro e w20 ⟨rfl, hj20⟩)
          | (go_at_call 23; with_reducible refine (HL.out.2.1 _ (And.left (by assumption))).mono ?_; rintro e w20 ⟨rfl, hj20⟩)
          | (go_at_call 23; with_reducible refine (HL.out.2.2.1 _ (And.left (by assumption))).mono ?_; rintro e w20 ⟨rfl, hj20⟩)
          | (go_at_call 23; with_reducible refine (HSO.out _ _ _ _ (by assumption) (And.left (by assumption))).mono ?_; rintro e w20 ⟨rfl, hj20⟩)
          | (go_at_call 24; with_reducible refine (HL.out.2.2.2.1 _ (And.left (by assumption))).mono ?_; rintro e w20 ⟨rfl, hj20⟩)
          | (go_at_call 24; with_reducible refine (HL.out.2.2.2.2.1 _ (And.left (by assumption))).mono ?_; rintro e w20 ⟨rfl, hj20⟩)
          | (go_at_call 24; with_reducible refine (HL.out.2.2.2.2.2.1 _ (And.left (by assumption))).mono ?_; rintro e w20 ⟨rfl, hj20⟩)
          | (go_at_call 25; with_reducible refine (HL.out.2.2.2.2.2.2.1 _ (And.left (by assumption))).mono ?_; rintro e w20 ⟨rfl, hj20⟩)
          | (go_at_call 25; with_reducible refine (HL.out.2.2.2.2.2.2.2.1 _ (And.left (by assumption))).mono ?_; rintro e w20 ⟨rfl, hj20⟩)
          | (go_at_call 18; with_reducible refine (HL.out.2.2.2.2.2.2.2.2.1 _ (by assumption)).mono ?_; rintro e w20 ⟨v20, rfl, hs20, hj20⟩)
          | (go_at_call 20; with_reducible refine (HL.out.2.2.2.2.2.2.2.2.2 _ (And.left (by assumption))).mono ?_; rintro e w20 ⟨rfl, hj20⟩))
        go_wp2_with fail
        refine hK.out _ _ ?_ (fun hHeld2 => ?_)
        · (try dsimp only); (first | assumption | exact JJ.all (by assumption) | exact JJ.all (JJ.drew (And.left (by assumption))) | exact JJ.all (JJ.drew (by assumption)))
        clear hK K hHeld1
        try simp only [Act.put, List.setIfInBounds_toArray, List.set_cons_zero, List.set_cons_succ]
        refine wpAnyH_ready (rs := [8]) (by kernel_rfl) (by simp) ?_
        refine AllReadyH.cons (o := { dst := some 58, op := Go.Op.call { callee := Go.Callee.value (Go.Operand.func 24), args := #[Go.Operand.tmp 57], argTypes := #[47] }, type := 3, pos := "law.go:77", after := #[{ on := 7, ground := Go.Ground.data }, { on := 6, ground := Go.Ground.chain }, { on := 3, ground := Go.Ground.guard }], guard := some (3, true) }) rfl (fun K hK => ?_) AllReadyH.nil
        go_simp
        (first
          | (go_at_call 23; with_reducible refine (HL.out.1 _ (And.left (by assumption))).mono ?_; rintro e w20 ⟨rfl, hj20⟩)
          | (go_at_call 23; with_reducible refine (HL.out.2.1 _ (And.left (by assumption))).mono ?_; rintro e w20 ⟨rfl, hj20⟩)
          | (go_at_call 23; with_reducible refine (HL.out.2.2.1 _ (And.left (by assumption))).mono ?_; rintro e w20 ⟨rfl, hj20⟩)
          | (go_at_call 23; with_reducible refine (HSO.out _ _ _ _ (by assumption) (And.left (by assumption))).mono ?_; rintro e w20 ⟨rfl, hj20⟩)
          | (go_at_call 24; with_reducible refine (HL.out.2.2.2.1 _ (And.left (by assumption))).mono ?_; rintro e w20 ⟨rfl, hj20⟩)
          | (go_at_call 24; with_reducible refine (HL.out.2.2.2.2.1 _ (And.left (by assumption))).mono ?_; rintro e w20 ⟨rfl, hj20⟩)
          | (go_at_call 24; with_reducible refine (HL.out.2.2.2.2.2.1 _ (And.left (by assumption))).mono ?_; rintro e w20 ⟨rfl, hj20⟩)
          | (go_at_call 25; with_reducible refine (HL.out.2.2.2.2.2.2.1 _ (And.left (by assumption))).mono ?_; rintro e w20 ⟨rfl, hj20⟩)
          | (go_at_call 25; with_reducible refine (HL.out.2.2.2.2.2.2.2.1 _ (And.left (by assumption))).mono ?_; rintro e w20 ⟨rfl, hj20⟩)
          | (go_at_call 18; with_reducible refine (HL.out.2.2.2.2.2.2.2.2.1 _ (by assumption)).mono ?_; rintro e w20 ⟨v20, rfl, hs20, hj20⟩)
          | (go_at_call 20; with_reducible refine (HL.out.2.2.2.2.2.2.2.2.2 _ (And.left (by assumption))).mono ?_; rintro e w20 ⟨rfl, hj20⟩))
        go_wp2_with fail
        refine hK.out _ _ ?_ (fun hHeld3 => ?_)
        · (try dsimp only); (first | assumption | exact JJ.all (by assumption) | exact JJ.all (JJ.drew (And.left (by assumption))) | exact JJ.all (JJ.drew (by assumption)))
        clear hK K hHeld2
        try simp only [Act.put, List.setIfInBounds_toArray, List.set_cons_zero, List.set_cons_succ]
        refine wpAnyH_take (i := 9) (oi := { dst := some 59, op := Go.Op.binOp Go.BinOp.gtr 3 (Go.Operand.tmp 56) (Go.Operand.tmp 58) 3, type := 4, pos := "law.go:77", after := #[{ on := 6, ground := Go.Ground.data }, { on := 8, ground := Go.Ground.data }, { on := 3, ground := Go.Ground.guard }], guard := some (3, true) }) (v := ?_) rfl (by kernel_rfl) (by kernel_rfl) (by kernel_rfl) (fun _ _ _ h => h) (Or.inl ⟨by rfl, ?_⟩) (by assumption) ?_
        rotate_left 1
        · intro w hSw; (try dsimp only at hSw); go_simp; try with_reducible rfl
        try simp only [Act.put, List.setIfInBounds_toArray, List.set_cons_zero, List.set_cons_succ]
        refine wpAnyH_take (i := 10) (oi := { dst := some 60, op := Go.Op.binOp Go.BinOp.eql 4 (Go.Operand.tmp 54) (Go.Operand.tmp 59) 4, type := 4, pos := "law.go:77", after := #[{ on := 4, ground := Go.Ground.data }, { on := 9, ground := Go.Ground.data }, { on := 3, ground := Go.Ground.guard }], guard := some (3, true) }) (v := ?_) rfl (by kernel_rfl) (by kernel_rfl) (by kernel_rfl) (fun _ _ _ h => h) (Or.inl ⟨by rfl, ?_⟩) (by assumption) ?_
        rotate_left 1
        · intro w hSw; (try dsimp only at hSw); go_simp; try with_reducible rfl
        try simp only [Act.put, List.setIfInBounds_toArray, List.set_cons_zero, List.set_cons_succ]
        refine wpAnyH_take (i := 11) (oi := { dst := some 61, op := Go.Op.pick (Go.Operand.tmp 53) (Go.Operand.tmp 60) (Go.Operand.const (Go.Value.bool false)), type := 4, pos := "law.go:77", after := #[{ on := 3, ground := Go.Ground.data }, { on := 10, ground := Go.Ground.data }], guard := none }) (v := ?_) rfl (by kernel_rfl) (by kernel_rfl) (by kernel_rfl) (fun _ _ _ h => h) (Or.inl ⟨by rfl, ?_⟩) (by assumption) ?_
        rotate_left 1
        · intro w hSw; (try dsimp only at hSw); go_simp; try with_reducible rfl
        try simp only [Act.put, List.setIfInBounds_toArray, List.set_cons_zero, List.set_cons_succ]
        refine wpAnyH_take (i := 12) (oi := { dst := some 62, op := Go.Op.move (Go.Operand.tmp 61), type := 4, pos := "law.go:77", after := #[{ on := 11, ground := Go.Ground.data }, { on := 8, ground := Go.Ground.chain }], guard := none }) (v := ?_) rfl (by kernel_rfl) (by kernel_rfl) (by kernel_rfl) (fun _ _ _ h => h) (Or.inl ⟨by rfl, ?_⟩) (by assumption) ?_
        rotate_left 1
        · intro w hSw; (try dsimp only at hSw); go_simp; try with_reducible rfl
        try simp only [Act.put, List.setIfInBounds_toArray, List.set_cons_zero, List.set_cons_succ]
        refine wpAnyH_take (i := 13) (oi := { dst := some 63, op := Go.Op.load 47 (Go.Operand.tmp 8), type := 47, pos := "law.go:77", after := #[{ on := 12, ground := Go.Ground.guard }], guard := some (12, true) }) (v := ?_) rfl (by kernel_rfl) (by kernel_rfl) (by kernel_rfl) (fun _ _ _ h => h) (Or.inl ⟨by rfl, ?_⟩) (by assumption) ?_
        rotate_left 1
        · intro w hSw; (try dsimp only at hSw); go_simp; try with_reducible rfl
        try simp only [Act.put, List.setIfInBounds_toArray, List.set_cons_zero, List.set_cons_succ]
        refine wpAnyH_ready (rs := [14]) (by kernel_rfl) (by simp) ?_
        refine AllReadyH.cons (o := { dst := some 64, op := Go.Op.call { callee := Go.Callee.value (Go.Operand.func 20), args := #[Go.Operand.tmp 9, Go.Operand.tmp 63], argTypes := #[47, 47] }, type := 4, pos := "law.go:77", after := #[{ on := 13, ground := Go.Ground.data }, { on := 12, ground := Go.Ground.chain }, { on := 12, ground := Go.Ground.guard }], guard := some (12, true) }) rfl (fun K hK => ?_) AllReadyH.nil
        go_simp
        (first
          | (go_at_call 23; with_reducible refine (HL.out.1 _ (And.left (by assumption))).mono ?_; rintro e w20 ⟨rfl, hj20⟩)
          | (go_at_call 23; with_reducible refine (HL.out.2.1 _ (And.left (by assumption))).mono ?_; rintro e w20 ⟨rfl, hj20⟩)
          | (go_at_call 23; with_reducible refine (HL.out.2.2.1 _ (And.left (by assumption))).mono ?_; rintro e w20 ⟨rfl, hj20⟩)
          | (go_at_call 23; with_reducible refine (HSO.out _ _ _ _ (by assumption) (And.left (by assumption))).mono ?_; rintro e w20 ⟨rfl, hj20⟩)
          | (go_at_call 24; with_reducible refine (HL.out.2.2.2.1 _ (And.left (by assumption))).mono ?_; rintro e w20 ⟨rfl, hj20⟩)
          | (go_at_call 24; with_reducible refine (HL.out.2.2.2.2.1 _ (And.left (by assumption))).mono ?_; rintro e w20 ⟨rfl, hj20⟩)
          | (go_at_call 24; with_reducible refine (HL.out.2.2.2.2.2.1 _ (And.left (by assumption))).mono ?_; rintro e w20 ⟨rfl, hj20⟩)
          | (go_at_call 25; with_reducible refine (HL.out.2.2.2.2.2.2.1 _ (And.left (by assumption))).mono ?_; rintro e w20 ⟨rfl, hj20⟩)
          | (go_at_call 25; with_reducible refine (HL.out.2.2.2.2.2.2.2.1 _ (And.left (by assumption))).mono ?_; rintro e w20 ⟨rfl, hj20⟩)
          | (go_at_call 18; with_reducible refine (HL.out.2.2.2.2.2.2.2.2.1 _ (by assumption)).mono ?_; rintro e w20 ⟨v20, rfl, hs20, hj20⟩)
          | (go_at_call 20; with_reducible refine (HL.out.2.2.2.2.2.2.2.2.2 _ (And.left (by assumption))).mono ?_; rintro e w20 ⟨rfl, hj20⟩))
        go_wp2_with fail
        refine hK.out _ _ ?_ (fun hHeld4 => ?_)
        · (try dsimp only); (first | assumption | exact JJ.all (by assumption) | exact JJ.all (JJ.drew (And.left (by assumption))) | exact JJ.all (JJ.drew (by assumption)))
        clear hK K hHeld3
        try simp only [Act.put, List.setIfInBounds_toArray, List.set_cons_zero, List.set_cons_succ]
        refine wpAnyH_take (i := 15) (oi := { dst := some 65, op := Go.Op.unOp Go.UnOp.not 4 (Go.Operand.tmp 64), type := 4, pos := "law.go:77", after := #[{ on := 14, ground := Go.Ground.data }, { on := 12, ground := Go.Ground.guard }], guard := some (12, true) }) (v := ?_) rfl (by kernel_rfl) (by kernel_rfl) (by kernel_rfl) (fun _ _ _ h => h) (Or.inl ⟨by rfl, ?_⟩) (by assumption) ?_
        rotate_left 1
        · intro w hSw; (try dsimp only at hSw); go_simp; try with_reducible rfl
        try simp only [Act.put, List.setIfInBounds_toArray, List.set_cons_zero, List.set_cons_succ]
        refine wpAnyH_take (i := 16) (oi := { dst := some 66, op := Go.Op.pick (Go.Operand.tmp 62) (Go.Operand.tmp 65) (Go.Operand.const (Go.Value.bool false)), type := 4, pos := "law.go:77", after := #[{ on := 12, ground := Go.Ground.data }, { on := 15, ground := Go.Ground.data }], guard := none }) (v := ?_) rfl (by kernel_rfl) (by kernel_rfl) (by kernel_rfl) (fun _ _ _ h => h) (Or.inl ⟨by rfl, ?_⟩) (by assumption) ?_
        rotate_left 1
        · intro w hSw; (try dsimp only at hSw); go_simp; try with_reducible rfl
        try simp only [Act.put, List.setIfInBounds_toArray, List.set_cons_zero, List.set_cons_succ]
        refine wpAnyH_take (i := 17) (oi := { dst := some 67, op := Go.Op.move (Go.Operand.tmp 66), type := 4, pos := "law.go:77", after := #[{ on := 16, ground := Go.Ground.data }, { on := 14, ground := Go.Ground.chain }], guard := none }) (v := ?_) rfl (by kernel_rfl) (by kernel_rfl) (by kernel_rfl) (fun _ _ _ h => h) (Or.inl ⟨by rfl, ?_⟩) (by assumption) ?_
        rotate_left 1
        · intro w hSw; (try dsimp only at hSw); go_simp; try with_reducible rfl
        try simp only [Act.put, List.setIfInBounds_toArray, List.set_cons_zero, List.set_cons_succ]
        refine wpAnyH_take (i := 18) (oi := { dst := some 68, op := Go.Op.load 47 (Go.Operand.tmp 7), type := 47, pos := "law.go:77", after := #[{ on := 17, ground := Go.Ground.guard }], guard := some (17, true) }) (v := ?_) rfl (by kernel_rfl) (by kernel_rfl) (by kernel_rfl) (fun _ _ _ h => h) (Or.inl ⟨by rfl, ?_⟩) (by assumption) ?_
        rotate_left 1
        · intro w hSw; (try dsimp only at hSw); go_simp; try with_reducible rfl
        try simp only [Act.put, List.setIfInBounds_toArray, List.set_cons_zero, List.set_cons_succ]
        refine wpAnyH_take (i := 19) (oi := { dst := some 69, op := Go.Op.move (Go.Operand.tmp 0), type := 45, pos := "law.go:77", after := #[{ on := 17, ground := Go.Ground.guard }], guard := some (17, true) }) (v := ?_) rfl (by kernel_rfl) (by kernel_rfl) (by kernel_rfl) (fun _ _ _ h => h) (Or.inl ⟨by rfl, ?_⟩) (by assumption) ?_
        rotate_left 1
        · intro w hSw; (try dsimp only at hSw); go_simp; try with_reducible rfl
        try simp only [Act.put, List.setIfInBounds_toArray, List.set_cons_zero, List.set_cons_succ]
        refine wpAnyH_ready (rs := [20]) (by kernel_rfl) (by simp) ?_
        refine AllReadyH.cons (o := { dst := some 70, op := Go.Op.call { callee := Go.Callee.value (Go.Operand.func 18), args := #[Go.Operand.tmp 69], argTypes := #[45] }, type := 47, pos := "law.go:77", after := #[{ on := 19, ground := Go.Ground.data }, { on := 17, ground := Go.Ground.chain }, { on := 17, ground := Go.Ground.guard }], guard := some (17, true) }) rfl (fun K hK => ?_) AllReadyH.nil
        go_simp
        (first
          | (go_at_call 23; with_reducible refine (HL.out.1 _ (And.left (by assumption))).mono ?_; rintro e w20 ⟨rfl, hj20⟩)
          | (go_at_call 23; with_reducible refine (HL.out.2.1 _ (And.left (by assumption))).mono ?_; rintro e w20 ⟨rfl, hj20⟩)
          | (go_at_call 23; with_reducible refine (HL.out.2.2.1 _ (And.left (by assumption))).mono ?_; rintro e w20 ⟨rfl, hj20⟩)
          | (go_at_call 23; with_reducible refine (HSO.out _ _ _ _ (by assumption) (And.left (by assumption))).mono ?_; rintro e w20 ⟨rfl, hj20⟩)
          | (go_at_call 24; with_reducible refine (HL.out.2.2.2.1 _ (And.left (by assumption))).mono ?_; rintro e w20 ⟨rfl, hj20⟩)
          | (go_at_call 24; with_reducible refine (HL.out.2.2.2.2.1 _ (And.left (by assumption))).mono ?_; rintro e w20 ⟨rfl, hj20⟩)
          | (go_at_call 24; with_reducible refine (HL.out.2.2.2.2.2.1 _ (And.left (by assumption))).mono ?_; rintro e w20 ⟨rfl, hj20⟩)
          | (go_at_call 25; with_reducible refine (HL.out.2.2.2.2.2.2.1 _ (And.left (by assumption))).mono ?_; rintro e w20 ⟨rfl, hj20⟩)
          | (go_at_call 25; with_reducible refine (HL.out.2.2.2.2.2.2.2.1 _ (And.left (by assumption))).mono ?_; rintro e w20 ⟨rfl, hj20⟩)
          | (go_at_call 18; with_reducible refine (HL.out.2.2.2.2.2.2.2.2.1 _ (by assumption)).mono ?_; rintro e w20 ⟨v20, rfl, hs20, hj20⟩)
          | (go_at_call 20; with_reducible refine (HL.out.2.2.2.2.2.2.2.2.2 _ (And.left (by assumption))).mono ?_; rintro e w20 ⟨rfl, hj20⟩))
        go_wp2_with fail
        refine hK.out _ _ ?_ (fun hHeld5 => ?_)
        · (try dsimp only); (first | assumption | exact JJ.all (by assumption) | exact JJ.all (JJ.drew (And.left (by assumption))) | exact JJ.all (JJ.drew (by assumption)))
        clear hK K hHeld4
        try simp only [Act.put, List.setIfInBounds_toArray, List.set_cons_zero, List.set_cons_succ]
        refine wpAnyH_ready (rs := [21]) (by kernel_rfl) (by simp) ?_
        refine AllReadyH.cons (o := { dst := some 71, op := Go.Op.call { callee := Go.Callee.value (Go.Operand.func 23), args := #[Go.Operand.tmp 68, Go.Operand.tmp 70], argTypes := #[47, 47] }, type := 4, pos := "law.go:77", after := #[{ on := 18, ground := Go.Ground.data }, { on := 20, ground := Go.Ground.data }, { on := 20, ground := Go.Ground.chain }, { on := 17, ground := Go.Ground.guard }], guard := some (17, true) }) rfl (fun K hK => ?_) AllReadyH.nil
        go_simp
        (first
          | (go_at_call 23; with_reducible refine (HL.out.1 _ (And.left (by assumption))).mono ?_; rintro e w20 ⟨rfl, hj20⟩)
          | (go_at_call 23; with_reducible refine (HL.out.2.1 _ (And.left (by assumption))).mono ?_; rintro e w20 ⟨rfl, hj20⟩)
          | (go_at_call 23; with_reducible refine (HL.out.2.2.1 _ (And.left (by assumption))).mono ?_; rintro e w20 ⟨rfl, hj20⟩)
          | (go_at_call 23; with_reducible refine (HSO.out _ _ _ _ (by assumption) (And.left (by assumption))).mono ?_; rintro e w20 ⟨rfl, hj20⟩)
          | (go_at_call 24; with_reducible refine (HL.out.2.2.2.1 _ (And.left (by assumption))).mono ?_; rintro e w20 ⟨rfl, hj20⟩)
          | (go_at_call 24; with_reducible refine (HL.out.2.2.2.2.1 _ (And.left (by assumption))).mono ?_; rintro e w20 ⟨rfl, hj20⟩)
          | (go_at_call 24; with_reducible refine (HL.out.2.2.2.2.2.1 _ (And.left (by assumption))).mono ?_; rintro e w20 ⟨rfl, hj20⟩)
          | (go_at_call 25; with_reducible refine (HL.out.2.2.2.2.2.2.1 _ (And.left (by assumption))).mono ?_; rintro e w20 ⟨rfl, hj20⟩)
          | (go_at_call 25; with_reducible refine (HL.out.2.2.2.2.2.2.2.1 _ (And.left (by assumption))).mono ?_; rintro e w20 ⟨rfl, hj20⟩)
          | (go_at_call 18; with_reducible refine (HL.out.2.2.2.2.2.2.2.2.1 _ (by assumption)).mono ?_; rintro e w20 ⟨v20, rfl, hs20, hj20⟩)
          | (go_at_call 20; with_reducible refine (HL.out.2.2.2.2.2.2.2.2.2 _ (And.left (by assumption))).mono ?_; rintro e w20 ⟨rfl, hj20⟩))
        go_wp2_with fail
        refine hK.out _ _ ?_ (fun hHeld6 => ?_)
        · (try dsimp only); (first | assumption | exact JJ.all (by assumption) | exact JJ.all (JJ.drew (And.left (by assumption))) | exact JJ.all (JJ.drew (by assumption)))
        clear hK K hHeld5
        try simp only [Act.put, List.setIfInBounds_toArray, List.set_cons_zero, List.set_cons_succ]
        refine wpAnyH_take (i := 22) (oi := { dst := some 72, op := Go.Op.pick (Go.Operand.tmp 67) (Go.Operand.tmp 71) (Go.Operand.const (Go.Value.bool false)), type := 4, pos := "law.go:77", after := #[{ on := 17, ground := Go.Ground.data }, { on := 21, ground := Go.Ground.data }], guard := none }) (v := ?_) rfl (by kernel_rfl) (by kernel_rfl) (by kernel_rfl) (fun _ _ _ h => h) (Or.inl ⟨by rfl, ?_⟩) (by assumption) ?_
        rotate_left 1
        · intro w hSw; (try dsimp only at hSw); go_simp; try with_reducible rfl
        try simp only [Act.put, List.setIfInBounds_toArray, List.set_cons_zero, List.set_cons_succ]
        refine wpAnyH_take (i := 23) (oi := { dst := some 73, op := Go.Op.move (Go.Operand.tmp 72), type := 4, pos := "law.go:77", after := #[{ on := 22, ground := Go.Ground.data }, { on := 21, ground := Go.Ground.chain }], guard := none }) (v := ?_) rfl (by kernel_rfl) (by kernel_rfl) (by kernel_rfl) (fun _ _ _ h => h) (Or.inl ⟨by rfl, ?_⟩) (by assumption) ?_
        rotate_left 1
        · intro w hSw; (try dsimp only at hSw); go_simp; try with_reducible rfl
        try simp only [Act.put, List.setIfInBounds_toArray, List.set_cons_zero, List.set_cons_succ]
        refine wpAnyH_take (i := 24) (oi := { dst := some 74, op := Go.Op.load 47 (Go.Operand.tmp 12), type := 47, pos := "law.go:77", after := #[{ on := 23, ground := Go.Ground.guard }], guard := some (23, true) }) (v := ?_) rfl (by kernel_rfl) (by kernel_rfl) (by kernel_rfl) (fun _ _ _ h => h) (Or.inl ⟨by rfl, ?_⟩) (by assumption) ?_
        rotate_left 1
        · intro w hSw; (try dsimp only at hSw); go_simp; try with_reducible rfl
        try simp only [Act.put, List.setIfInBounds_toArray, List.set_cons_zero, List.set_cons_succ]
        refine wpAnyH_take (i := 25) (oi := { dst := some 75, op := Go.Op.load 47 (Go.Operand.tmp 11), type := 47, pos := "law.go:77", after := #[{ on := 23, ground := Go.Ground.guard }], guard := some (23, true) }) (v := ?_) rfl (by kernel_rfl) (by kernel_rfl) (by kernel_rfl) (fun _ _ _ h => h) (Or.inl ⟨by rfl, ?_⟩) (by assumption) ?_
        rotate_left 1
        · intro w hSw; (try dsimp only at hSw); go_simp; try with_reducible rfl
        try simp only [Act.put, List.setIfInBounds_toArray, List.set_cons_zero, List.set_cons_succ]
        refine wpAnyH_take (i := 27) (oi := { dst := some 77, op := Go.Op.move (Go.Operand.tmp 13), type := 4, pos := "law.go:77", after := #[{ on := 23, ground := Go.Ground.guard }], guard := some (23, true) }) (v := ?_) rfl (by kernel_rfl) (by kernel_rfl) (by kernel_rfl) (fun _ _ _ h => h) (Or.inl ⟨by rfl, ?_⟩) (by assumption) ?_
        rotate_left 1
        · intro w hSw; (try dsimp only at hSw); go_simp; try with_reducible rfl
        try simp only [Act.put, List.setIfInBounds_toArray, List.set_cons_zero, List.set_cons_succ]
        refine wpAnyH_take (i := 28) (oi := { dst := some 78, op := Go.Op.unOp Go.UnOp.not 4 (Go.Operand.tmp 77), type := 4, pos := "law.go:77", after := #[{ on := 27, ground := Go.Ground.data }, { on := 23, ground := Go.Ground.guard }], guard := some (23, true) }) (v := ?_) rfl (by kernel_rfl) (by kernel_rfl) (by kernel_rfl) (fun _ _ _ h => h) (Or.inl ⟨by rfl, ?_⟩) (by assumption) ?_
        rotate_left 1
        · intro w hSw; (try dsimp only at hSw); go_simp; try with_reducible rfl
        try simp only [Act.put, List.setIfInBounds_toArray, List.set_cons_zero, List.set_cons_succ]
        refine wpAnyH_ready (rs := [26]) (by kernel_rfl) (by simp) ?_
        refine AllReadyH.cons (o := { dst := some 76, op := Go.Op.call { callee := Go.Callee.value (Go.Operand.func 23), args := #[Go.Operand.tmp 74, Go.Operand.tmp 75], argTypes := #[47, 47] }, type := 4, pos := "law.go:77", after := #[{ on := 24, ground := Go.Ground.data }, { on := 25, ground := Go.Ground.data }, { on := 23, ground := Go.Ground.chain }, { on := 23, ground := Go.Ground.guard }], guard := some (23, true) }) rfl (fun K hK => ?_) AllReadyH.nil
        go_simp
        (first
          | (go_at_call 23; with_reducible refine (HL.out.1 _ (And.left (by assumption))).mono ?_; rintro e w20 ⟨rfl, hj20⟩)
          | (go_at_call 23; with_reducible refine (HL.out.2.1 _ (And.left (by assumption))).mono ?_; rintro e w20 ⟨rfl, hj20⟩)
          | (go_at_call 23; with_reducible refine (HL.out.2.2.1 _ (And.left (by assumption))).mono ?_; rintro e w20 ⟨rfl, hj20⟩)
          | (go_at_call 23; with_reducible refine (HSO.out _ _ _ _ (by assumption) (And.left (by assumption))).mono ?_; rintro e w20 ⟨rfl, hj20⟩)
          | (go_at_call 24; with_reducible refine (HL.out.2.2.2.1 _ (And.left (by assumption))).mono ?_; rintro e w20 ⟨rfl, hj20⟩)
          | (go_at_call 24; with_reducible refine (HL.out.2.2.2.2.1 _ (And.left (by assumption))).mono ?_; rintro e w20 ⟨rfl, hj20⟩)
          | (go_at_call 24; with_reducible refine (HL.out.2.2.2.2.2.1 _ (And.left (by assumption))).mono ?_; rintro e w20 ⟨rfl, hj20⟩)
          | (go_at_call 25; with_reducible refine (HL.out.2.2.2.2.2.2.1 _ (And.left (by assumption))).mono ?_; rintro e w20 ⟨rfl, hj20⟩)
          | (go_at_call 25; with_reducible refine (HL.out.2.2.2.2.2.2.2.1 _ (And.left (by assumption))).mono ?_; rintro e w20 ⟨rfl, hj20⟩)
          | (go_at_call 18; with_reducible refine (HL.out.2.2.2.2.2.2.2.2.1 _ (by assumption)).mono ?_; rintro e w20 ⟨v20, rfl, hs20, hj20⟩)
          | (go_at_call 20; with_reducible refine (HL.out.2.2.2.2.2.2.2.2.2 _ (And.left (by assumption))).mono ?_; rintro e w20 ⟨rfl, hj20⟩))
        go_wp2_with fail
        refine hK.out _ _ ?_ (fun hHeld7 => ?_)
        · (try dsimp only); (first | assumption | exact JJ.all (by assumption) | exact JJ.all (JJ.drew (And.left (by assumption))) | exact JJ.all (JJ.drew (by assumption)))
        clear hK K hHeld6
        try simp only [Act.put, List.setIfInBounds_toArray, List.set_cons_zero, List.set_cons_succ]
        refine wpAnyH_take (i := 29) (oi := { dst := some 79, op := Go.Op.binOp Go.BinOp.eql 4 (Go.Operand.tmp 76) (Go.Operand.tmp 78) 4, type := 4, pos := "law.go:77", after := #[{ on := 26, ground := Go.Ground.data }, { on := 28, ground := Go.Ground.data }, { on := 23, ground := Go.Ground.guard }], guard := some (23, true) }) (v := ?_) rfl (by kernel_rfl) (by kernel_rfl) (by kernel_rfl) (fun _ _ _ h => h) (Or.inl ⟨by rfl, ?_⟩) (by assumption) ?_
        rotate_left 1
        · intro w hSw; (try dsimp only at hSw); go_simp; try with_reducible rfl
        try simp only [Act.put, List.setIfInBounds_toArray, List.set_cons_zero, List.set_cons_succ]
        refine wpAnyH_take (i := 30) (oi := { dst := some 80, op := Go.Op.pick (Go.Operand.tmp 73) (Go.Operand.tmp 79) (Go.Operand.const (Go.Value.bool false)), type := 4, pos := "law.go:77", after := #[{ on := 23, ground := Go.Ground.data }, { on := 29, ground := Go.Ground.data }], guard := none }) (v := ?_) rfl (by kernel_rfl) (by kernel_rfl) (by kernel_rfl) (fun _ _ _ h => h) (Or.inl ⟨by rfl, ?_⟩) (by assumption) ?_
        rotate_left 1
        · intro w hSw; (try dsimp only at hSw); go_simp; try with_reducible rfl
        try simp only [Act.put, List.setIfInBounds_toArray, List.set_cons_zero, List.set_cons_succ]
        refine wpAnyH_take (i := 31) (oi := { dst := some 81, op := Go.Op.move (Go.Operand.tmp 80), type := 4, pos := "law.go:77", after := #[{ on := 30, ground := Go.Ground.data }, { on := 26, ground := Go.Ground.chain }], guard := none }) (v := ?_) rfl (by kernel_rfl) (by kernel_rfl) (by kernel_rfl) (fun _ _ _ h => h) (Or.inl ⟨by rfl, ?_⟩) (by assumption) ?_
        rotate_left 1
        · intro w hSw; (try dsimp only at hSw); go_simp; try with_reducible rfl
        try simp only [Act.put, List.setIfInBounds_toArray, List.set_cons_zero, List.set_cons_succ]
        refine wpAnyH_take (i := 32) (oi := { dst := some 82, op := Go.Op.load 47 (Go.Operand.tmp 12), type := 47, pos := "law.go:77", after := #[{ on := 31, ground := Go.Ground.guard }], guard := some (31, true) }) (v := ?_) rfl (by kernel_rfl) (by kernel_rfl) (by kernel_rfl) (fun _ _ _ h => h) (Or.inl ⟨by rfl, ?_⟩) (by assumption) ?_
        rotate_left 1
        · intro w hSw; (try dsimp only at hSw); go_simp; try with_reducible rfl
        try simp only [Act.put, List.setIfInBounds_toArray, List.set_cons_zero, List.set_cons_succ]
        refine wpAnyH_take (i := 33) (oi := { dst := some 83, op := Go.Op.move (Go.Operand.tmp 2), type := 9, pos := "law.go:77", after := #[{ on := 31, ground := Go.Ground.guard }], guard := some (31, true) }) (v := ?_) rfl (by kernel_rfl) (by kernel_rfl) (by kernel_rfl) (fun _ _ _ h => h) (Or.inl ⟨by rfl, ?_⟩) (by assumption) ?_
        rotate_left 1
        · intro w hSw; (try dsimp only at hSw); go_simp; try with_reducible rfl
        try simp only [Act.put, List.setIfInBounds_toArray, List.set_cons_zero, List.set_cons_succ]
        refine wpAnyH_ready (rs := [34]) (by kernel_rfl) (by simp) ?_
        refine AllReadyH.cons (o := { dst := some 84, op := Go.Op.call { callee := Go.Callee.value (Go.Operand.func 25), args := #[Go.Operand.tmp 82, Go.Operand.tmp 83], argTypes := #[47, 9] }, type := 4, pos := "law.go:77", after := #[{ on := 32, ground := Go.Ground.data }, { on := 33, ground := Go.Ground.data }, { on := 31, ground := Go.Ground.chain }, { on := 31, ground := Go.Ground.guard }], guard := some (31, true) }) rfl (fun K hK => ?_) AllReadyH.nil
        go_simp
        (first
          | (go_at_call 23; with_reducible refine (HL.out.1 _ (And.left (by assumption))).mono ?_; rintro e w20 ⟨rfl, hj20⟩)
          | (go_at_call 23; with_reducible refine (HL.out.2.1 _ (And.left (by assumption))).mono ?_; rintro e w20 ⟨rfl, hj20⟩)
          | (go_at_call 23; with_reducible refine (HL.out.2.2.1 _ (And.left (by assumption))).mono ?_; rintro e w20 ⟨rfl, hj20⟩)
          | (go_at_call 23; with_reducible refine (HSO.out _ _ _ _ (by assumption) (And.left (by assumption))).mono ?_; rintro e w20 ⟨rfl, hj20⟩)
          | (go_at_call 24; with_reducible refine (HL.out.2.2.2.1 _ (And.left (by assumption))).mono ?_; rintro e w20 ⟨rfl, hj20⟩)
          | (go_at_call 24; with_reducible refine (HL.out.2.2.2.2.1 _ (And.left (by assumption))).mono ?_; rintro e w20 ⟨rfl, hj20⟩)
          | (go_at_call 24; with_reducible refine (HL.out.2.2.2.2.2.1 _ (And.left (by assumption))).mono ?_; rintro e w20 ⟨rfl, hj20⟩)
          | (go_at_call 25; with_reducible refine (HL.out.2.2.2.2.2.2.1 _ (And.left (by assumption))).mono ?_; rintro e w20 ⟨rfl, hj20⟩)
          | (go_at_call 25; with_reducible refine (HL.out.2.2.2.2.2.2.2.1 _ (And.left (by assumption))).mono ?_; rintro e w20 ⟨rfl, hj20⟩)
          | (go_at_call 18; with_reducible refine (HL.out.2.2.2.2.2.2.2.2.1 _ (by assumption)).mono ?_; rintro e w20 ⟨v20, rfl, hs20, hj20⟩)
          | (go_at_call 20; with_reducible refine (HL.out.2.2.2.2.2.2.2.2.2 _ (And.left (by assumption))).mono ?_; rintro e w20 ⟨rfl, hj20⟩))
        go_wp2_with fail
        refine hK.out _ _ ?_ (fun hHeld8 => ?_)
        · (try dsimp only); (first | assumption | exact JJ.all (by assumption) | exact JJ.all (JJ.drew (And.left (by assumption))) | exact JJ.all (JJ.drew (by assumption)))
        clear hK K hHeld7
        try simp only [Act.put, List.setIfInBounds_toArray, List.set_cons_zero, List.set_cons_succ]
        refine wpAnyH_take (i := 35) (oi := { dst := some 85, op := Go.Op.pick (Go.Operand.tmp 81) (Go.Operand.tmp 84) (Go.Operand.const (Go.Value.bool false)), type := 4, pos := "law.go:77", after := #[{ on := 31, ground := Go.Ground.data }, { on := 34, ground := Go.Ground.data }], guard := none }) (v := ?_) rfl (by kernel_rfl) (by kernel_rfl) (by kernel_rfl) (fun _ _ _ h => h) (Or.inl ⟨by rfl, ?_⟩) (by assumption) ?_
        rotate_left 1
        · intro w hSw; (try dsimp only at hSw); go_simp; try with_reducible rfl
        try simp only [Act.put, List.setIfInBounds_toArray, List.set_cons_zero, List.set_cons_succ]
        refine wpAnyH_take (i := 36) (oi := { dst := some 86, op := Go.Op.move (Go.Operand.tmp 85), type := 4, pos := "law.go:77", after := #[{ on := 35, ground := Go.Ground.data }, { on := 34, ground := Go.Ground.chain }], guard := none }) (v := ?_) rfl (by kernel_rfl) (by kernel_rfl) (by kernel_rfl) (fun _ _ _ h => h) (Or.inl ⟨by rfl, ?_⟩) (by assumption) ?_
        rotate_left 1
        · intro w hSw; (try dsimp only at hSw); go_simp; try with_reducible rfl
        try simp only [Act.put, List.setIfInBounds_toArray, List.set_cons_zero, List.set_cons_succ]
        refine wpAnyH_take (i := 37) (oi := { dst := some 87, op := Go.Op.load 47 (Go.Operand.tmp 11), type := 47, pos := "law.go:77", after := #[{ on := 36, ground := Go.Ground.guard }], guard := some (36, true) }) (v := ?_) rfl (by kernel_rfl) (by kernel_rfl) (by kernel_rfl) (fun _ _ _ h => h) (Or.inl ⟨by rfl, ?_⟩) (by assumption) ?_
        rotate_left 1
        · intro w hSw; (try dsimp only at hSw); go_simp; try with_reducible rfl
        try simp only [Act.put, List.setIfInBounds_toArray, List.set_cons_zero, List.set_cons_succ]
        refine wpAnyH_take (i := 38) (oi := { dst := some 88, op := Go.Op.move (Go.Operand.tmp 2), type := 9, pos := "law.go:77", after := #[{ on := 36, ground := Go.Ground.guard }], guard := some (36, true) }) (v := ?_) rfl (by kernel_rfl) (by kernel_rfl) (by kernel_rfl) (fun _ _ _ h => h) (Or.inl ⟨by rfl, ?_⟩) (by assumption) ?_
        rotate_left 1
        · intro w hSw; (try dsimp only at hSw); go_simp; try with_reducible rfl
        try simp only [Act.put, List.setIfInBounds_toArray, List.set_cons_zero, List.set_cons_succ]
        refine wpAnyH_take (i := 40) (oi := { dst := some 90, op := Go.Op.move (Go.Operand.tmp 13), type := 4, pos := "law.go:77", after := #[{ on := 36, ground := Go.Ground.guard }], guard := some (36, true) }) (v := ?_) rfl (by kernel_rfl) (by kernel_rfl) (by kernel_rfl) (fun _ _ _ h => h) (Or.inl ⟨by rfl, ?_⟩) (by assumption) ?_
        rotate_left 1
        · intro w hSw; (try dsimp only at hSw); go_simp; try with_reducible rfl
        try simp only [Act.put, List.setIfInBounds_toArray, List.set_cons_zero, List.set_cons_succ]
        refine wpAnyH_take (i := 41) (oi := { dst := some 91, op := Go.Op.unOp Go.UnOp.not 4 (Go.Operand.tmp 90), type := 4, pos := "law.go:77", after := #[{ on := 40, ground := Go.Ground.data }, { on := 36, ground := Go.Ground.guard }], guard := some (36, true) }) (v := ?_) rfl (by kernel_rfl) (by kernel_rfl) (by kernel_rfl) (fun _ _ _ h => h) (Or.inl ⟨by rfl, ?_⟩) (by assumption) ?_
        rotate_left 1
        · intro w hSw; (try dsimp only at hSw); go_simp; try with_reducible rfl
        try simp only [Act.put, List.setIfInBounds_toArray, List.set_cons_zero, List.set_cons_succ]
        refine wpAnyH_ready (rs := [39]) (by kernel_rfl) (by simp) ?_
        refine AllReadyH.cons (o := { dst := some 89, op := Go.Op.call { callee := Go.Callee.value (Go.Operand.func 25), args := #[Go.Operand.tmp 87, Go.Operand.tmp 88], argTypes := #[47, 9] }, type := 4, pos := "law.go:77", after := #[{ on := 37, ground := Go.Ground.data }, { on := 38, ground := Go.Ground.data }, { on := 36, ground := Go.Ground.chain }, { on := 36, ground := Go.Ground.guard }], guard := some (36, true) }) rfl (fun K hK => ?_) AllReadyH.nil
        go_simp
        (first
          | (go_at_call 23; with_reducible refine (HL.out.1 _ (And.left (by assumption))).mono ?_; rintro e w20 ⟨rfl, hj20⟩)
          | (go_at_call 23; with_reducible refine (HL.out.2.1 _ (And.left (by assumption))).mono ?_; rintro e w20 ⟨rfl, hj20⟩)
          | (go_at_call 23; with_reducible refine (HL.out.2.2.1 _ (And.left (by assumption))).mono ?_; rintro e w20 ⟨rfl, hj20⟩)
          | (go_at_call 23; with_reducible refine (HSO.out _ _ _ _ (by assumption) (And.left (by assumption))).mono ?_; rintro e w20 ⟨rfl, hj20⟩)
          | (go_at_call 24; with_reducible refine (HL.out.2.2.2.1 _ (And.left (by assumption))).mono ?_; rintro e w20 ⟨rfl, hj20⟩)
          | (go_at_call 24; with_reducible refine (HL.out.2.2.2.2.1 _ (And.left (by assumption))).mono ?_; rintro e w20 ⟨rfl, hj20⟩)
          | (go_at_call 24; with_reducible refine (HL.out.2.2.2.2.2.1 _ (And.left (by assumption))).mono ?_; rintro e w20 ⟨rfl, hj20⟩)
          | (go_at_call 25; with_reducible refine (HL.out.2.2.2.2.2.2.1 _ (And.left (by assumption))).mono ?_; rintro e w20 ⟨rfl, hj20⟩)
          | (go_at_call 25; with_reducible refine (HL.out.2.2.2.2.2.2.2.1 _ (And.left (by assumption))).mono ?_; rintro e w20 ⟨rfl, hj20⟩)
          | (go_at_call 18; with_reducible refine (HL.out.2.2.2.2.2.2.2.2.1 _ (by assumption)).mono ?_; rintro e w20 ⟨v20, rfl, hs20, hj20⟩)
          | (go_at_call 20; with_reducible refine (HL.out.2.2.2.2.2.2.2.2.2 _ (And.left (by assumption))).mono ?_; rintro e w20 ⟨rfl, hj20⟩))
        go_wp2_with fail
        refine hK.out _ _ ?_ (fun hHeld9 => ?_)
        · (try dsimp only); (first | assumption | exact JJ.all (by assumption) | exact JJ.all (JJ.drew (And.left (by assumption))) | exact JJ.all (JJ.drew (by assumption)))
        clear hK K hHeld8
        try simp only [Act.put, List.setIfInBounds_toArray, List.set_cons_zero, List.set_cons_succ]
        refine wpAnyH_take (i := 42) (oi := { dst := some 92, op := Go.Op.binOp Go.BinOp.eql 4 (Go.Operand.tmp 89) (Go.Operand.tmp 91) 4, type := 4, pos := "law.go:77", after := #[{ on := 39, ground := Go.Ground.data }, { on := 41, ground := Go.Ground.data }, { on := 36, ground := Go.Ground.guard }], guard := some (36, true) }) (v := ?_) rfl (by kernel_rfl) (by kernel_rfl) (by kernel_rfl) (fun _ _ _ h => h) (Or.inl ⟨by rfl, ?_⟩) (by assumption) ?_
        rotate_left 1
        · intro w hSw; (try dsimp only at hSw); go_simp; try with_reducible rfl
        try simp only [Act.put, List.setIfInBounds_toArray, List.set_cons_zero, List.set_cons_succ]
        refine wpAnyH_take (i := 43) (oi := { dst := some 93, op := Go.Op.pick (Go.Operand.tmp 86) (Go.Operand.tmp 92) (Go.Operand.const (Go.Value.bool false)), type := 4, pos := "law.go:77", after := #[{ on := 36, ground := Go.Ground.data }, { on := 42, ground := Go.Ground.data }], guard := none }) (v := ?_) rfl (by kernel_rfl) (by kernel_rfl) (by kernel_rfl) (fun _ _ _ h => h) (Or.inl ⟨by rfl, ?_⟩) (by assumption) ?_
        rotate_left 1
        · intro w hSw; (try dsimp only at hSw); go_simp; try with_reducible rfl
        try simp only [Act.put, List.setIfInBounds_toArray, List.set_cons_zero, List.set_cons_succ]
        refine wpAnyH_take (i := 44) (oi := { dst := some 94, op := Go.Op.move (Go.Operand.tmp 93), type := 4, pos := "law.go:77", after := #[{ on := 43, ground := Go.Ground.data }, { on := 39, ground := Go.Ground.chain }], guard := none }) (v := ?_) rfl (by kernel_rfl) (by kernel_rfl) (by kernel_rfl) (fun _ _ _ h => h) (Or.inl ⟨by rfl, ?_⟩) (by assumption) ?_
        rotate_left 1
        · intro w hSw; (try dsimp only at hSw); go_simp; try with_reducible rfl
        try simp only [Act.put, List.setIfInBounds_toArray, List.set_cons_zero, List.set_cons_succ]
        refine wpAnyH_take (i := 45) (oi := { dst := some 95, op := Go.Op.load 47 (Go.Operand.tmp 7), type := 47, pos := "law.go:77", after := #[{ on := 44, ground := Go.Ground.guard }], guard := some (44, true) }) (v := ?_) rfl (by kernel_rfl) (by kernel_rfl) (by kernel_rfl) (fun _ _ _ h => h) (Or.inl ⟨by rfl, ?_⟩) (by assumption) ?_
        rotate_left 1
        · intro w hSw; (try dsimp only at hSw); go_simp; try with_reducible rfl
        try simp only [Act.put, List.setIfInBounds_toArray, List.set_cons_zero, List.set_cons_succ]
        refine wpAnyH_take (i := 46) (oi := { dst := some 96, op := Go.Op.load 47 (Go.Operand.tmp 8), type := 47, pos := "law.go:77", after := #[{ on := 44, ground := Go.Ground.guard }], guard := some (44, true) }) (v := ?_) rfl (by kernel_rfl) (by kernel_rfl) (by kernel_rfl) (fun _ _ _ h => h) (Or.inl ⟨by rfl, ?_⟩) (by assumption) ?_
        rotate_left 1
        · intro w hSw; (try dsimp only at hSw); go_simp; try with_reducible rfl
        try simp only [Act.put, List.setIfInBounds_toArray, List.set_cons_zero, List.set_cons_succ]
        refine wpAnyH_take (i := 48) (oi := { dst := some 98, op := Go.Op.load 47 (Go.Operand.tmp 9), type := 47, pos := "law.go:77", after := #[{ on := 44, ground := Go.Ground.guard }], guard := some (44, true) }) (v := ?_) rfl (by kernel_rfl) (by kernel_rfl) (by kernel_rfl) (fun _ _ _ h => h) (Or.inl ⟨by rfl, ?_⟩) (by assumption) ?_
        rotate_left 1
        · intro w hSw; (try dsimp only at hSw); go_simp; try with_reducible rfl
        try simp only [Act.put, List.setIfInBounds_toArray, List.set_cons_zero, List.set_cons_succ]
        refine wpAnyH_take (i := 50) (oi := { dst := some 100, op := Go.Op.load 47 (Go.Operand.tmp 7), type := 47, pos := "law.go:77", after := #[{ on := 44, ground := Go.Ground.guard }], guard := some (44, true) }) (v := ?_) rfl (by kernel_rfl) (by kernel_rfl) (by kernel_rfl) (fun _ _ _ h => h) (Or.inl ⟨by rfl, ?_⟩) (by assumption) ?_
        rotate_left 1
        · intro w hSw; (try dsimp only at hSw); go_simp; try with_reducible rfl
        try simp only [Act.put, List.setIfInBounds_toArray, List.set_cons_zero, List.set_cons_succ]
        refine wpAnyH_ready (rs := [47]) (by kernel_rfl) (by simp) ?_
        refine AllReadyH.cons (o := { dst := some 97, op := Go.Op.call { callee := Go.Callee.value (Go.Operand.func 23), args := #[Go.Operand.tmp 95, Go.Operand.tmp 96], argTypes := #[47, 47] }, type := 4, pos := "law.go:77", after := #[{ on := 45, ground := Go.Ground.data }, { on := 46, ground := Go.Ground.data }, { on := 44, ground := Go.Ground.chain }, { on := 44, ground := Go.Ground.guard }], guard := some (44, true) }) rfl (fun K hK => ?_) AllReadyH.nil
        go_simp
        (first
          | (go_at_call 23; with_reducible refine (HL.out.1 _ (And.left (by assumption))).mono ?_; rintro e w20 ⟨rfl, hj20⟩)
          | (go_at_call 23; with_reducible refine (HL.out.2.1 _ (And.left (by assumption))).mono ?_; rintro e w20 ⟨rfl, hj20⟩)
          | (go_at_call 23; with_reducible refine (HL.out.2.2.1 _ (And.left (by assumption))).mono ?_; rintro e w20 ⟨rfl, hj20⟩)
          | (go_at_call 23; with_reducible refine (HSO.out _ _ _ _ (by assumption) (And.left (by assumption))).mono ?_; rintro e w20 ⟨rfl, hj20⟩)
          | (go_at_call 24; with_reducible refine (HL.out.2.2.2.1 _ (And.left (by assumption))).mono ?_; rintro e w20 ⟨rfl, hj20⟩)
          | (go_at_call 24; with_reducible refine (HL.out.2.2.2.2.1 _ (And.left (by assumption))).mono ?_; rintro e w20 ⟨rfl, hj20⟩)
          | (go_at_call 24; with_reducible refine (HL.out.2.2.2.2.2.1 _ (And.left (by assumption))).mono ?_; rintro e w20 ⟨rfl, hj20⟩)
          | (go_at_call 25; with_reducible refine (HL.out.2.2.2.2.2.2.1 _ (And.left (by assumption))).mono ?_; rintro e w20 ⟨rfl, hj20⟩)
          | (go_at_call 25; with_reducible refine (HL.out.2.2.2.2.2.2.2.1 _ (And.left (by assumption))).mono ?_; rintro e w20 ⟨rfl, hj20⟩)
          | (go_at_call 18; with_reducible refine (HL.out.2.2.2.2.2.2.2.2.1 _ (by assumption)).mono ?_; rintro e w20 ⟨v20, rfl, hs20, hj20⟩)
          | (go_at_call 20; with_reducible refine (HL.out.2.2.2.2.2.2.2.2.2 _ (And.left (by assumption))).mono ?_; rintro e w20 ⟨rfl, hj20⟩))
        go_wp2_with fail
        refine hK.out _ _ ?_ (fun hHeld10 => ?_)
        · (try dsimp only); (first | assumption | exact JJ.all (by assumption) | exact JJ.all (JJ.drew (And.left (by assumption))) | exact JJ.all (JJ.drew (by assumption)))
        clear hK K hHeld9
        try simp only [Act.put, List.setIfInBounds_toArray, List.set_cons_zero, List.set_cons_succ]
        refine wpAnyH_ready (rs := [49]) (by kernel_rfl) (by simp) ?_
        refine AllReadyH.cons (o := { dst := some 99, op := Go.Op.call { callee := Go.Callee.value (Go.Operand.func 24), args := #[Go.Operand.tmp 98], argTypes := #[47] }, type := 3, pos := "law.go:77", after := #[{ on := 48, ground := Go.Ground.data }, { on := 47, ground := Go.Ground.chain }, { on := 44, ground := Go.Ground.guard }], guard := some (44, true) }) rfl (fun K hK => ?_) AllReadyH.nil
        go_simp
        (first
          | (go_at_call 23; with_reducible refine (HL.out.1 _ (And.left (by assumption))).mono ?_; rintro e w20 ⟨rfl, hj20⟩)
          | (go_at_call 23; with_reducible refine (HL.out.2.1 _ (And.left (by assumption))).mono ?_; rintro e w20 ⟨rfl, hj20⟩)
          | (go_at_call 23; with_reducible refine (HL.out.2.2.1 _ (And.left (by assumption))).mono ?_; rintro e w20 ⟨rfl, hj20⟩)
          | (go_at_call 23; with_reducible refine (HSO.out _ _ _ _ (by assumption) (And.left (by assumption))).mono ?_; rintro e w20 ⟨rfl, hj20⟩)
          | (go_at_call 24; with_reducible refine (HL.out.2.2.2.1 _ (And.left (by assumption))).mono ?_; rintro e w20 ⟨rfl, hj20⟩)
          | (go_at_call 24; with_reducible refine (HL.out.2.2.2.2.1 _ (And.left (by assumption))).mono ?_; rintro e w20 ⟨rfl, hj20⟩)
          | (go_at_call 24; with_reducible refine (HL.out.2.2.2.2.2.1 _ (And.left (by assumption))).mono ?_; rintro e w20 ⟨rfl, hj20⟩)
          | (go_at_call 25; with_reducible refine (HL.out.2.2.2.2.2.2.1 _ (And.left (by assumption))).mono ?_; rintro e w20 ⟨rfl, hj20⟩)
          | (go_at_call 25; with_reducible refine (HL.out.2.2.2.2.2.2.2.1 _ (And.left (by assumption))).mono ?_; rintro e w20 ⟨rfl, hj20⟩)
          | (go_at_call 18; with_reducible refine (HL.out.2.2.2.2.2.2.2.2.1 _ (by assumption)).mono ?_; rintro e w20 ⟨v20, rfl, hs20, hj20⟩)
          | (go_at_call 20; with_reducible refine (HL.out.2.2.2.2.2.2.2.2.2 _ (And.left (by assumption))).mono ?_; rintro e w20 ⟨rfl, hj20⟩))
        go_wp2_with fail
        refine hK.out _ _ ?_ (fun hHeld11 => ?_)
        · (try dsimp only); (first | assumption | exact JJ.all (by assumption) | exact JJ.all (JJ.drew (And.left (by assumption))) | exact JJ.all (JJ.drew (by assumption)))
        clear hK K hHeld10
        try simp only [Act.put, List.setIfInBounds_toArray, List.set_cons_zero, List.set_cons_succ]
        refine wpAnyH_ready (rs := [51]) (by kernel_rfl) (by simp) ?_
        refine AllReadyH.cons (o := { dst := some 101, op := Go.Op.call { callee := Go.Callee.value (Go.Operand.func 24), args := #[Go.Operand.tmp 100], argTypes := #[47] }, type := 3, pos := "law.go:77", after := #[{ on := 50, ground := Go.Ground.data }, { on := 49, ground := Go.Ground.chain }, { on := 44, ground := Go.Ground.guard }], guard := some (44, true) }) rfl (fun K hK => ?_) AllReadyH.nil
        go_simp
        (first
          | (go_at_call 23; with_reducible refine (HL.out.1 _ (And.left (by assumption))).mono ?_; rintro e w20 ⟨rfl, hj20⟩)
          | (go_at_call 23; with_reducible refine (HL.out.2.1 _ (And.left (by assumption))).mono ?_; rintro e w20 ⟨rfl, hj20⟩)
          | (go_at_call 23; with_reducible refine (HL.out.2.2.1 _ (And.left (by assumption))).mono ?_; rintro e w20 ⟨rfl, hj20⟩)
          | (go_at_call 23; with_reducible refine (HSO.out _ _ _ _ (by assumption) (And.left (by assumption))).mono ?_; rintro e w20 ⟨rfl, hj20⟩)
          | (go_at_call 24; with_reducible refine (HL.out.2.2.2.1 _ (And.left (by assumption))).mono ?_; rintro e w20 ⟨rfl, hj20⟩)
          | (go_at_call 24; with_reducible refine (HL.out.2.2.2.2.1 _ (And.left (by assumption))).mono ?_; rintro e w20 ⟨rfl, hj20⟩)
          | (go_at_call 24; with_reducible refine (HL.out.2.2.2.2.2.1 _ (And.left (by assumption))).mono ?_; rintro e w20 ⟨rfl, hj20⟩)
          | (go_at_call 25; with_reducible refine (HL.out.2.2.2.2.2.2.1 _ (And.left (by assumption))).mono ?_; rintro e w20 ⟨rfl, hj20⟩)
          | (go_at_call 25; with_reducible refine (HL.out.2.2.2.2.2.2.2.1 _ (And.left (by assumption))).mono ?_; rintro e w20 ⟨rfl, hj20⟩)
          | (go_at_call 18; with_reducible refine (HL.out.2.2.2.2.2.2.2.2.1 _ (by assumption)).mono ?_; rintro e w20 ⟨v20, rfl, hs20, hj20⟩)
          | (go_at_call 20; with_reducible refine (HL.out.2.2.2.2.2.2.2.2.2 _ (And.left (by assumption))).mono ?_; rintro e w20 ⟨rfl, hj20⟩))
        go_wp2_with fail
        refine hK.out _ _ ?_ (fun hHeld12 => ?_)
        · (try dsimp only); (first | assumption | exact JJ.all (by assumption) | exact JJ.all (JJ.drew (And.left (by assumption))) | exact JJ.all (JJ.drew (by assumption)))
        clear hK K hHeld11
        try simp only [Act.put, List.setIfInBounds_toArray, List.set_cons_zero, List.set_cons_succ]
        refine wpAnyH_take (i := 52) (oi := { dst := some 102, op := Go.Op.binOp Go.BinOp.eql 3 (Go.Operand.tmp 99) (Go.Operand.tmp 101) 3, type := 4, pos := "law.go:77", after := #[{ on := 49, ground := Go.Ground.data }, { on := 51, ground := Go.Ground.data }, { on := 44, ground := Go.Ground.guard }], guard := some (44, true) }) (v := ?_) rfl (by kernel_rfl) (by kernel_rfl) (by kernel_rfl) (fun _ _ _ h => h) (Or.inl ⟨by rfl, ?_⟩) (by assumption) ?_
        rotate_left 1
        · intro w hSw; (try dsimp only at hSw); go_simp; try with_reducible rfl
        try simp only [Act.put, List.setIfInBounds_toArray, List.set_cons_zero, List.set_cons_succ]
        refine wpAnyH_take (i := 53) (oi := { dst := some 103, op := Go.Op.move (Go.Operand.tmp 102), type := 4, pos := "law.go:77", after := #[{ on := 52, ground := Go.Ground.data }, { on := 51, ground := Go.Ground.chain }, { on := 44, ground := Go.Ground.guard }], guard := some (44, true) }) (v := ?_) rfl (by kernel_rfl) (by kernel_rfl) (by kernel_rfl) (fun _ _ _ h => h) (Or.inl ⟨by rfl, ?_⟩) (by assumption) ?_
        rotate_left 1
        · intro w hSw; (try dsimp only at hSw); go_simp; try with_reducible rfl
        try simp only [Act.put, List.setIfInBounds_toArray, List.set_cons_zero, List.set_cons_succ]
        refine wpAnyH_take (i := 54) (oi := { dst := some 104, op := Go.Op.load 47 (Go.Operand.tmp 9), type := 47, pos := "law.go:77", after := #[{ on := 53, ground := Go.Ground.guard }], guard := some (53, true) }) (v := undef) rfl (by kernel_rfl) (by kernel_rfl) (by kernel_rfl) (fun _ _ _ h => h) (Or.inr ⟨by rfl, rfl⟩) (by assumption) ?_
        try simp only [Act.put, List.setIfInBounds_toArray, List.set_cons_zero, List.set_cons_succ]
        refine wpAnyH_take (i := 55) (oi := { dst := some 105, op := Go.Op.call { callee := Go.Callee.value (Go.Operand.func 24), args := #[Go.Operand.tmp 104], argTypes := #[47] }, type := 3, pos := "law.go:77", after := #[{ on := 54, ground := Go.Ground.data }, { on := 53, ground := Go.Ground.chain }, { on := 53, ground := Go.Ground.guard }], guard := some (53, true) }) (v := undef) rfl (by kernel_rfl) (by kernel_rfl) (by kernel_rfl) (fun _ _ _ h => h) (Or.inr ⟨by rfl, rfl⟩) (by assumption) ?_
        try simp only [Act.put, List.setIfInBounds_toArray, List.set_cons_zero, List.set_cons_succ]
        refine wpAnyH_take (i := 56) (oi := { dst := some 106, op := Go.Op.load 47 (Go.Operand.tmp 8), type := 47, pos := "law.go:77", after := #[{ on := 53, ground := Go.Ground.guard }], guard := some (53, true) }) (v := undef) rfl (by kernel_rfl) (by kernel_rfl) (by kernel_rfl) (fun _ _ _ h => h) (Or.inr ⟨by rfl, rfl⟩) (by assumption) ?_
        try simp only [Act.put, List.setIfInBounds_toArray, List.set_cons_zero, List.set_cons_succ]
        refine wpAnyH_take (i := 57) (oi := { dst := some 107, op := Go.Op.call { callee := Go.Callee.value (Go.Operand.func 24), args := #[Go.Operand.tmp 106], argTypes := #[47] }, type := 3, pos := "law.go:77", after := #[{ on := 56, ground := Go.Ground.data }, { on := 55, ground := Go.Ground.chain }, { on := 53, ground := Go.Ground.guard }], guard := some (53, true) }) (v := undef) rfl (by kernel_rfl) (by kernel_rfl) (by kernel_rfl) (fun _ _ _ h => h) (Or.inr ⟨by rfl, rfl⟩) (by assumption) ?_
        try simp only [Act.put, List.setIfInBounds_toArray, List.set_cons_zero, List.set_cons_succ]
        refine wpAnyH_take (i := 58) (oi := { dst := some 108, op := Go.Op.binOp Go.BinOp.eql 3 (Go.Operand.tmp 105) (Go.Operand.tmp 107) 3, type := 4, pos := "law.go:77", after := #[{ on := 55, ground := Go.Ground.data }, { on := 57, ground := Go.Ground.data }, { on := 53, ground := Go.Ground.guard }], guard := some (53, true) }) (v := undef) rfl (by kernel_rfl) (by kernel_rfl) (by kernel_rfl) (fun _ _ _ h => h) (Or.inr ⟨by rfl, rfl⟩) (by assumption) ?_
        try simp only [Act.put, List.setIfInBounds_toArray, List.set_cons_zero, List.set_cons_succ]
        refine wpAnyH_take (i := 59) (oi := { dst := some 109, op := Go.Op.pick (Go.Operand.tmp 103) (Go.Operand.tmp 108) (Go.Operand.const (Go.Value.bool false)), type := 4, pos := "law.go:77", after := #[{ on := 53, ground := Go.Ground.data }, { on := 58, ground := Go.Ground.data }, { on := 44, ground := Go.Ground.guard }], guard := some (44, true) }) (v := ?_) rfl (by kernel_rfl) (by kernel_rfl) (by kernel_rfl) (fun _ _ _ h => h) (Or.inl ⟨by rfl, ?_⟩) (by assumption) ?_
        rotate_left 1
        · intro w hSw; (try dsimp only at hSw); go_simp; try with_reducible rfl
        try simp only [Act.put, List.setIfInBounds_toArray, List.set_cons_zero, List.set_cons_succ]
        refine wpAnyH_take (i := 60) (oi := { dst := some 110, op := Go.Op.binOp Go.BinOp.eql 4 (Go.Operand.tmp 97) (Go.Operand.tmp 109) 4, type := 4, pos := "law.go:77", after := #[{ on := 47, ground := Go.Ground.data }, { on := 59, ground := Go.Ground.data }, { on := 44, ground := Go.Ground.guard }], guard := some (44, true) }) (v := ?_) rfl (by kernel_rfl) (by kernel_rfl) (by kernel_rfl) (fun _ _ _ h => h) (Or.inl ⟨by rfl, ?_⟩) (by assumption) ?_
        rotate_left 1
        · intro w hSw; (try dsimp only at hSw); go_simp; try with_reducible rfl
        try simp only [Act.put, List.setIfInBounds_toArray, List.set_cons_zero, List.set_cons_succ]
        refine wpAnyH_take (i := 61) (oi := { dst := some 111, op := Go.Op.pick (Go.Operand.tmp 94) (Go.Operand.tmp 110) (Go.Operand.const (Go.Value.bool false)), type := 4, pos := "law.go:77", after := #[{ on := 44, ground := Go.Ground.data }, { on := 60, ground := Go.Ground.data }], guard := none }) (v := ?_) rfl (by kernel_rfl) (by kernel_rfl) (by kernel_rfl) (fun _ _ _ h => h) (Or.inl ⟨by rfl, ?_⟩) (by assumption) ?_
        rotate_left 1
        · intro w hSw; (try dsimp only at hSw); go_simp; try with_reducible rfl
        try simp only [Act.put, List.setIfInBounds_toArray, List.set_cons_zero, List.set_cons_succ]
        refine wpAnyH_take (i := 62) (oi := { dst := some 6, op := Go.Op.assign (Go.Operand.tmp 111), type := 4, pos := "law.go:77", after := #[{ on := 61, ground := Go.Ground.data }, { on := 57, ground := Go.Ground.chain }, { on := 0, ground := Go.Ground.phase }, { on := 1, ground := Go.Ground.phase }, { on := 2, ground := Go.Ground.phase }, { on := 3, ground := Go.Ground.phase }, { on := 4, ground := Go.Ground.phase }, { on := 5, ground := Go.Ground.phase }, { on := 6, ground := Go.Ground.phase }, { on := 7, ground := Go.Ground.phase }, { on := 8, ground := Go.Ground.phase }, { on := 9, ground := Go.Ground.phase }, { on := 10, ground := Go.Ground.phase }, { on := 11, ground := Go.Ground.phase }, { on := 12, ground := Go.Ground.phase }, { on := 13, ground := Go.Ground.phase }, { on := 14, ground := Go.Ground.phase }, { on := 15, ground := Go.Ground.phase }, { on := 16, ground := Go.Ground.phase }, { on := 17, ground := Go.Ground.phase }, { on := 18, ground := Go.Ground.phase }, { on := 19, ground := Go.Ground.phase }, { on := 20, ground := Go.Ground.phase }, { on := 21, ground := Go.Ground.phase }, { on := 22, ground := Go.Ground.phase }, { on := 23, ground := Go.Ground.phase }, { on := 24, ground := Go.Ground.phase }, { on := 25, ground := Go.Ground.phase }, { on := 26, ground := Go.Ground.phase }, { on := 27, ground := Go.Ground.phase }, { on := 28, ground := Go.Ground.phase }, { on := 29, ground := Go.Ground.phase }, { on := 30, ground := Go.Ground.phase }, { on := 31, ground := Go.Ground.phase }, { on := 32, ground := Go.Ground.phase }, { on := 33, ground := Go.Ground.phase }, { on := 34, ground := Go.Ground.phase }, { on := 35, ground := Go.Ground.phase }, { on := 36, ground := Go.Ground.phase }, { on := 37, ground := Go.Ground.phase }, { on := 38, ground := Go.Ground.phase }, { on := 39, ground := Go.Ground.phase }, { on := 40, ground := Go.Ground.phase }, { on := 41, ground := Go.Ground.phase }, { on := 42, ground := Go.Ground.phase }, { on := 43, ground := Go.Ground.phase }, { on := 44, ground := Go.Ground.phase }, { on := 45, ground := Go.Ground.phase }, { on := 46, ground := Go.Ground.phase }, { on := 47, ground := Go.Ground.phase }, { on := 48, ground := Go.Ground.phase }, { on := 49, ground := Go.Ground.phase }, { on := 50, ground := Go.Ground.phase }, { on := 51, ground := Go.Ground.phase }, { on := 52, ground := Go.Ground.phase }, { on := 53, ground := Go.Ground.phase }, { on := 54, ground := Go.Ground.phase }, { on := 55, ground := Go.Ground.phase }, { on := 56, ground := Go.Ground.phase }, { on := 57, ground := Go.Ground.phase }, { on := 58, ground := Go.Ground.phase }, { on := 59, ground := Go.Ground.phase }, { on := 60, ground := Go.Ground.phase }, { on := 61, ground := Go.Ground.phase }], guard := none }) (v := ?_) rfl (by kernel_rfl) (by kernel_rfl) (by kernel_rfl) (fun _ _ _ h => h) (Or.inl ⟨by rfl, ?_⟩) (by assumption) ?_
        rotate_left 1
        · intro w hSw; (try dsimp only at hSw); go_simp; try with_reducible rfl
        try simp only [Act.put, List.setIfInBounds_toArray, List.set_cons_zero, List.set_cons_succ]
        refine wpAnyH_done (by kernel_rfl) ?_ _
        have hfin := hHeld12
        have hbel := (And.left (And.left hfin)).below
        have HBE := Lib.hid hbel
        clear hfin hbel hS
        go_wp2
        go_ret
        exact ⟨rfl, by rw [HB.out]; exact HBE.out⟩
end Go.Proofs.Yteojcdpmlhlfaaa
