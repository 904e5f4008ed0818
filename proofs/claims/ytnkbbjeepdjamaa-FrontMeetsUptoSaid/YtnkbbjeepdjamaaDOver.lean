/- dom.Tree.Over, Up: what the tree says of two places. Conditions: the tree is as the plain law asks. -/
import Derived.Test.YtnkbbjeepdjamaaDTr
namespace Go.Proofs.Ytnkbbjeepdjamaa
open Go.RowKit
theorem decInt {a b : Nat} : ((a : Int) == (b : Int)) = decide (a = b) := by
  by_cases h : a = b
  · subst h; simp
  · rw [decide_eq_false h]; exact beq_eq_false_iff_ne.mpr (by omega)
/-- Says whether a is over b. -/
def OvPost (g : Nat → List Nat) (a b : Nat) (w : World) (e : Ending) (w' : World) : Prop := (∃ r : Bool, e = .returned (.bool r) ∧ (r = true ↔ LT.Ov g a b)) ∧ Below w.heap.size w w'
section
variable {w : World} {base n qu qb qd : Nat} {vs : List Value} {up deep : List Int} {bl : List (List Nat)} {g : Nat → List Nat} (h : TR w base n qu qb qd vs up deep bl) (hd : LT.DTree g n up deep) (hn : n ≤ 1048575)
set_option maxRecDepth 100000 in
set_option maxHeartbeats 4000000 in
theorem over_out (x y : Int) (ho : x < 0 ∨ y < 0 ∨ (n : Int) ≤ x ∨ (n : Int) ≤ y) :
    Calls Try.prog 21 #[treeV qu qb qd n, .int .i64 x, .int .i64 y] w fun e w' => e = .returned (.bool false) ∧ Below w.heap.size w w' := by
  unfold treeV
  by_cases h1 : x < 0
  · clear ho
    go_enter Try.func21, Try.ntmps21
    go_wp2_with fail
    go_ret
    exact ⟨rfl, (Below.refl _ _).alloc (Nat.le_refl _) _⟩
  · by_cases h2 : y < 0
    · clear ho
      go_enter Try.func21, Try.ntmps21
      go_wp2_with fail
      go_ret
      exact ⟨rfl, (Below.refl _ _).alloc (Nat.le_refl _) _⟩
    · by_cases h3 : (n : Int) ≤ x
      · clear ho
        go_enter Try.func21, Try.ntmps21
        go_wp2_with fail
        go_ret
        exact ⟨rfl, (Below.refl _ _).alloc (Nat.le_refl _) _⟩
      · have h4 : (n : Int) ≤ y := by omega
        clear ho
        go_enter Try.func21, Try.ntmps21
        go_wp2_with fail
        go_ret
        exact ⟨rfl, (Below.refl _ _).alloc (Nat.le_refl _) _⟩
include h hd
set_option maxRecDepth 100000 in
set_option maxHeartbeats 4000000 in
theorem over_in (a b : Nat) (ha : a < n) (hb : b < n) :
    Calls Try.prog 21 #[treeV qu qb qd n, .int .i64 a, .int .i64 b] w (OvPost g a b w) := by
  unfold treeV
  have a0 : ¬ (a : Int) < 0 := by omega
  have b0 : ¬ (b : Int) < 0 := by omega
  have a1 : ¬ (n : Int) ≤ (a : Int) := by omega
  have b1 : ¬ (n : Int) ≤ (b : Int) := by omega
  have a2 : (a : Int) < (n : Int) := by omega
  have b2 : (b : Int) < (n : Int) := by omega
  obtain ⟨X, hX⟩ : ∃ X, w.alloc (.cells #[.slice (some ⟨qu, 0, none⟩) n n, .slice (some ⟨qb, 0, none⟩) n n, .slice (some ⟨qd, 0, none⟩) n n] 33) = X := ⟨_, rfl⟩
  obtain ⟨hx, hbx, hz⟩ := boxed hX rfl
  have hT := h.later hbx
  have x2 := cell_of_blk _ _ _ _ _ hx 2
  have x0' := cell_of_blk _ _ _ _ _ hx 0
  simp at x2 x0'
  have HX := Lib.hid (And.intro hT (And.intro hx (And.intro hbx hz)))
  have HXX := Lib.hid hX
  have HD := Lib.hid hd
  have k0 : 0 ≤ (a : Int) := by omega
  have k1 : 0 ≤ (b : Int) := by omega
  by_cases hwa : Way g 0 a
  · obtain ⟨da, hda, _⟩ := hd.deep_of hwa
    have ca := hT.deep.cell hda
    have na : ¬ (da : Int) < 0 := by omega
    by_cases hwb : Way g 0 b
    · obtain ⟨db, hdb, _⟩ := hd.deep_of hwb
      have cb := hT.deep.cell hdb
      have nb' : ¬ (db : Int) < 0 := by omega
      have HA := Lib.hid (And.intro hwa hda)
      have HB := Lib.hid (And.intro hwb hdb)
      clear hd h hT hx hbx hz hda hdb hwa hwb
      rw [← hX] at x2 x0' ca cb
      clear hX
      go_enter Try.func21, Try.ntmps21
      go_wp2_with fail
      rw [HXX.out]
      rw [HXX.out] at x2 x0' ca cb
      clear cb
      go_loopw [2] (fun v wr => ∃ b' : Nat, v = .int .i64 (b' : Int) ∧ Hid (Way g 0 b' ∧ (LT.Ov g a b ↔ LT.Ov g a b') ∧ Below X.heap.size X wr)) (fun v _ => (deep.getD (intOf v).toNat 0).toNat)
      case atStart => exact ⟨b, rfl, Lib.hid ⟨HB.out.1, Iff.rfl, Below.refl _ _⟩⟩
      case round =>
        obtain ⟨b', rfl, HI⟩ := hrel
        obtain ⟨hwb, hov, hbl⟩ := HI.out
        clear HI
        obtain ⟨db', hdb, hz0⟩ := HD.out.deep_of hwb
        have hT := HX.out.1.later hbl
        have hxr := (hbl.block _ (lt_blk HX.out.2.1)).trans HX.out.2.1
        have ca := hT.deep.cell HA.out.2
        have cb := hT.deep.cell hdb
        have y0 := cell_of_blk _ _ _ _ _ hxr 0
        have y2 := cell_of_blk _ _ _ _ _ hxr 2
        simp at y0 y2
        have hb'n : b' < n := HD.out.lt b' hwb
        have k2 : 0 ≤ (b' : Int) := by omega
        have k3 : (b' : Int) < (n : Int) := by omega
        by_cases hlt : da < db'
        · have hb0 : b' ≠ 0 := fun e => by have := hz0.2 e; omega
          obtain ⟨u, d, hwu, hupb, hd1, hd2, hnear⟩ := HD.out.near b' hwb hb0
          have hdd : db' = d + 1 := by rw [hdb] at hd1; have := Option.some.inj hd1; omega
          have cu := hT.up.cell hupb
          have hov2 : LT.Ov g a b ↔ LT.Ov g a u := by
            rw [hov, hnear a]
            exact ⟨fun e => e.resolve_left (fun e => by subst e; have := HA.out.2; rw [hdb] at this; have := Option.some.inj this; omega), .inr⟩
          have pp : ((da : Int) < (db' : Int)) := by omega
          have HE := Lib.hid (And.intro hwu (And.intro hov2 (And.intro True.intro (And.intro hdb hd2))))
          have HBL := Lib.hid hbl
          have HUP := Lib.hid (And.intro hT (And.intro hxr hupb))
          clear hwb hov hbl hT hxr hdb hupb hd1 hd2 hnear hz0
          go_wp2_with fail
          go_quiet (fail)
          have hT2 := HUP.out.1.later (below_drewN' _ nq)
          have hb2 := below_two HBL.out (below_drewN' _ nq)
          have hx2 : (wr.drewN nq).heap[w.heap.size]? = _ := HUP.out.2.1
          generalize wr.drewN nq = W2 at *
          clear ca cb y0 y2 cu
          have y0 := cell_of_blk _ _ _ _ _ hx2 0
          simp at y0
          have cu := hT2.up.cell HUP.out.2.2
          have HB2 := Lib.hid hb2
          clear hT2 hb2 hx2
          go_wp2_with fail
          go_roundw
          case rel => exact ⟨u, rfl, Lib.hid ⟨HE.out.1, HE.out.2.1, HB2.out⟩⟩
          case measure =>
            simp only [intOf, Int.toNat_natCast, List.getD_eq_getElem?_getD, HE.out.2.2.2.1, HE.out.2.2.2.2, Option.getD_some]
            omega
        · have pp : ¬ ((da : Int) < (db' : Int)) := by omega
          have HE := Lib.hid (show decide (a = b') = true ↔ LT.Ov g a b from by
            rw [hov, decide_eq_true_iff]
            refine ⟨fun e => by subst e; exact LT.ov_self HA.out.1, fun e => ?_⟩
            have := HD.out.le db' a b' da e hdb HA.out.2
            exact this.2 (by omega))
          have HBL := Lib.hid hbl
          clear hwb hov hbl hT hxr hdb hz0
          go_wp2_with fail
          go_quiet (fail)
          have hb2 := below_two HBL.out (below_drewN' _ nq)
          have HB2 := Lib.hid hb2
          clear ca cb y0 y2 hb2
          generalize wr.drewN nq = W2 at *
          go_wp2_with fail
          go_ret
          exact ⟨⟨decide (a = b'), (congrArg (fun x => Ending.returned (.bool x)) (decInt (a := a) (b := b'))), HE.out⟩, below_two HX.out.2.2.1 HB2.out⟩
    · have cb := hT.deep.cell (hd.un b hb hwb).2
      have HNB := Lib.hid hwb
      clear hd h hT hx hbx hz hda hwa hwb
      rw [← hX] at x2 x0' ca cb
      clear hX
      go_enter Try.func21, Try.ntmps21
      go_wp2_with fail
      go_ret
      exact ⟨⟨false, rfl, by simp; exact fun e => HNB.out e.2.1⟩, (Below.refl _ _).alloc (Nat.le_refl _) _⟩
  · have ca := hT.deep.cell (hd.un a ha hwa).2
    have HNA := Lib.hid hwa
    clear hd h hT hx hbx hz hwa
    rw [← hX] at x2 x0' ca
    clear hX
    go_enter Try.func21, Try.ntmps21
    go_wp2_with fail
    go_ret
    exact ⟨⟨false, rfl, by simp; exact fun e => HNA.out e.1⟩, (Below.refl _ _).alloc (Nat.le_refl _) _⟩
end
/-- The nearest one. -/
theorem up_in {w : World} {base n qu qb qd : Nat} {vs : List Value} {up deep : List Int} {bl : List (List Nat)} (h : TR w base n qu qb qd vs up deep bl) (v : Nat) (x : Int) (hx : up[v]? = some x) (hv : v < n) :
    Calls Try.prog 22 #[treeV qu qb qd n, .int .i64 v] w fun e w' => e = .returned (.int .i64 x) ∧ Below w.heap.size w w' := by
  unfold treeV
  have c := (h.up.later ((Below.refl w.heap.size w).alloc (Nat.le_refl _) (.cells #[.slice (some ⟨qu, 0, none⟩) n n, .slice (some ⟨qb, 0, none⟩) n n, .slice (some ⟨qd, 0, none⟩) n n] 33))).cell hx
  have i0 : 0 ≤ (v : Int) := by omega
  have i1 : (v : Int) < (n : Int) := by omega
  clear h hx
  go_enter Try.func22, Try.ntmps22
  go_wp2_with fail
  go_ret
  exact ⟨rfl, (Below.refl _ _).alloc (Nat.le_refl _) _⟩
theorem up_out (qu qb qd n : Nat) (x : Int) (hx : x < 0 ∨ (n : Int) ≤ x) (w : World) :
    Calls Try.prog 22 #[treeV qu qb qd n, .int .i64 x] w fun e w' => e = .returned (.int .i64 (-1)) ∧ Below w.heap.size w w' := by
  unfold treeV
  by_cases h1 : x < 0
  · clear hx
    go_enter Try.func22, Try.ntmps22
    go_wp2_with fail
    go_ret
    exact ⟨rfl, (Below.refl _ _).alloc (Nat.le_refl _) _⟩
  · have h2 : (n : Int) ≤ x := by omega
    clear hx
    go_enter Try.func22, Try.ntmps22
    go_wp2_with fail
    go_ret
    exact ⟨rfl, (Below.refl _ _).alloc (Nat.le_refl _) _⟩
end Go.Proofs.Ytnkbbjeepdjamaa
