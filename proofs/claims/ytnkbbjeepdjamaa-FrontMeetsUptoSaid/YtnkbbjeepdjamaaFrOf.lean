/- front.Of: where each place's rule ends. Conditions: few places; the tree is the graph's. -/
import Derived.Test.YtnkbbjeepdjamaaFrP
import Derived.Test.YtnkbbjeepdjamaaFrM
import Derived.Test.YtnkbbjeepdjamaaDOver
import Derived.Test.YtnkbbjeepdjamaaGJoinsP
import Derived.Test.YtnkbbjeepdjamaaM2
namespace Go.Proofs.Ytnkbbjeepdjamaa
open Go.RowKit
/-- Two new blocks. -/
theorem twoB {w X : World} {o0 o1 : Obj} (h : (w.alloc o0).alloc o1 = X) :
    X.heap[w.heap.size]? = some o0 ∧ X.heap[w.heap.size + 1]? = some o1 ∧ X.heap.size = w.heap.size + 2 ∧ Below w.heap.size w X := by
  subst h
  have n1 := heap_alloc_new' (w.alloc o0) o1
  simp only [World.size_alloc] at n1
  exact ⟨alloc_oldD (heap_alloc_new' w o0), n1, by simp, ((Below.refl _ _).alloc (Nat.le_refl _) _).alloc (by simp) _⟩
/-- While fronts are made. -/
structure FS (Y : World) (Q n : Nat) (P : Nat → Nat → Prop) (wr : World) : Prop where
  bags : ∃ S', Bags wr Q Q n n P S'
  below : Below Y.heap.size Y wr
/-- With a row beside. -/
structure FSR (Y : World) (Q n : Nat) (P : Nat → Nat → Prop) (base : Nat) (v : Value) (l : List Nat) (wr : World) : Prop where
  bags : ∃ S', Bags wr Q Q n n P S' ∧ ∀ g, v.ownBlock = some g → ¬ S' g
  row : RowAt wr base 3 v (l.map iv)
  below : Below Y.heap.size Y wr
section
variable {Y wr w' : World} {Q n base : Nat} {P P' : Nat → Nat → Prop} {v : Value} {l : List Nat}
theorem FS.later (h : FS Y Q n P wr) (hb : Below wr.heap.size wr w') : FS Y Q n P w' :=
  ⟨h.bags.elim fun S' k => ⟨S', k.later hb⟩, below_two h.below hb⟩
theorem FS.iff (h : FS Y Q n P wr) (hp : ∀ r x, P r x ↔ P' r x) : FS Y Q n P' wr := ⟨h.bags.elim fun S' k => ⟨S', k.iff hp⟩, h.below⟩
theorem FSR.iff (h : FSR Y Q n P base v l wr) (hp : ∀ r x, P r x ↔ P' r x) : FSR Y Q n P' base v l wr := ⟨h.bags.elim fun S' k => ⟨S', k.1.iff hp, k.2⟩, h.row, h.below⟩
theorem FSR.later (h : FSR Y Q n P base v l wr) (hb : Below wr.heap.size wr w') : FSR Y Q n P base v l w' :=
  ⟨h.bags.elim fun S' k => ⟨S', k.1.later hb, k.2⟩, h.row.only (Only.of_below hb) (fun g hg e => by have := (h.row.lt hg).1; omega), below_two h.below hb⟩
theorem FS.row (h : FS Y Q n P wr) (hb : Below wr.heap.size wr w') (hr : RowAt w' wr.heap.size 3 v (l.map iv)) : FSR Y Q n P wr.heap.size v l w' :=
  ⟨h.bags.elim fun S' k => ⟨S', k.later hb, fun g hg e => by have h1 := (hr.lt hg).2; have h2 := (k.lt e).1; omega⟩, hr, below_two h.below hb⟩
theorem FSR.fs (h : FSR Y Q n P base v l wr) : FS Y Q n P wr := ⟨h.bags.elim fun S' k => ⟨S', k.1⟩, h.below⟩
theorem FSR.add (h : FSR Y Q n P base v l wr) (hQ : Y.heap.size ≤ Q) {r x : Nat} (hr : r < n) (hx : x < n) (hn : n ≤ 1048575) :
    Calls Try.prog 38 #[.pointer (some ⟨Q, r, none⟩), .int .i64 (x : Int)] wr fun e w' => (∃ b, e = .returned (.bool b)) ∧ FSR Y Q n (fun r' y => P r' y ∨ (r' = r ∧ y = x)) base v l w' := by
  obtain ⟨S', k1, k2⟩ := h.bags
  refine (k1.add hr hx hn).mono ?_
  rintro e w' ⟨b, S2, rfl, h1, h2, h3⟩
  refine ⟨⟨b, rfl⟩, ⟨S2, h1, fun g hg e => ?_⟩, h.row.only h2 (fun g hg e => k2 g hg e), h.below.trans (h2.below h.below.size (fun g hg e => by have := (k1.lt e).2; omega))⟩
  rcases h3 g e with e | e
  · exact k2 g hg e
  · have := (h.row.lt hg).1; omega
end
set_option maxRecDepth 100000 in
set_option maxHeartbeats 8000000 in
theorem front_calls {w : World} {base base' n q1 p1 qu qb qd : Nat} {b a : List (List Nat)} {S : Nat → Prop} {vs : List Value} {up deep : List Int} {bl : List (List Nat)} (hg : Gr w base (.agg #[.slice (some ⟨q1, 0, none⟩) n n, .slice (some ⟨p1, 0, none⟩) n n]) b a S) (hbn : b.length = n) (hf : Few b) (ht : Twin n b a) (hn : n ≤ 1048575)
    (hal : ∀ (i : Nat) (l : List Nat), a[i]? = some l → l.length ≤ 1048575) (htr : TR w base' n qu qb qd vs up deep bl) (hdt : LT.DTree (nb b) n up deep) :
    Calls Try.prog 32 #[.agg #[.slice (some ⟨q1, 0, none⟩) n n, .slice (some ⟨p1, 0, none⟩) n n], treeV qu qb qd n] w fun e w' =>
      ∃ Q S', e = .returned (.slice (some ⟨Q, 0, none⟩) n n) ∧ Bags w' Q Q n n (LT.FrontR (nb b)) S' ∧ Below w.heap.size w w' := by
  have HG := Lib.hid (And.intro hg (And.intro hbn (And.intro hf (And.intro ht hal))))
  have HT := Lib.hid (And.intro htr hdt)
  clear hg hbn hf ht hal htr hdt
  unfold treeV
  go_enter Try.func32, Try.ntmps32
  go_wp2_with fail
  generalize hX : World.alloc (World.alloc w _) _ = X
  obtain ⟨y0, y1, yz, yb⟩ := twoB hX
  obtain ⟨B, hB⟩ : ∃ k, w.heap.size = k := ⟨_, rfl⟩
  have HX := Lib.hid (And.intro (HG.out.1.later yb) (And.intro (HT.out.1.later yb) (And.intro (hB ▸ y0) (And.intro (hB ▸ y1) yb))))
  have hmk := mk_sets n (by omega)
  rw [hB]
  clear hX y0 y1 yz yb hB
  refine (len_calls q1 n p1 n n n X).mono ?_
  rintro e Y ⟨rfl, hb⟩
  have HY := Lib.hid (And.intro (HX.out.1.later hb) (And.intro (HX.out.2.1.later hb) (And.intro ((hb.block _ (lt_blk HX.out.2.2.1)).trans HX.out.2.2.1) (And.intro ((hb.block _ (lt_blk HX.out.2.2.2.1)).trans HX.out.2.2.2.1) (below_two HX.out.2.2.2.2 hb)))))
  clear hb HX
  go_upto_region 2 with (fail)
  generalize hZ : World.alloc Y _ = Z
  obtain ⟨Q, hQ⟩ : ∃ k, Y.heap.size = k := ⟨_, rfl⟩
  have hF0 : FS Y Q n (fun _ _ => False) Z := by
    rw [← hZ, ← hQ]
    exact ⟨⟨_, Bags.new Y Y.heap.size n n (Nat.le_refl _)⟩, (Below.refl _ _).alloc (Nat.le_refl _) _⟩
  have HF0 := Lib.hid hF0
  have HQ := Lib.hid hQ
  rw [hQ]
  clear hZ hF0 hmk hQ
  have hbB := (HF0.out.below.block _ (lt_blk HY.out.2.2.1)).trans HY.out.2.2.1
  have g0 := cell_of_blk _ _ _ _ _ hbB 0
  have g1 := cell_of_blk _ _ _ _ _ hbB 1
  simp at g0 g1
  clear hbB
  go_wp2_with fail
  clear g0 g1
  refine (len_calls q1 n p1 n n n Z).mono ?_
  rintro e Z2 ⟨rfl, hb⟩
  have HF1 := Lib.hid (HF0.out.later hb)
  clear hb HF0
  go_wp2_with fail
  go_loopw [15] (fun v wr => ∃ k : Nat, v = .int .i64 (k : Int) ∧ Hid (k ≤ n ∧ FS Y Q n (LT.FrK (nb b) k) wr)) (fun v _ => n - (intOf v).toNat)
  case atStart => exact ⟨0, rfl, Lib.hid ⟨Nat.zero_le _, HF1.out.iff (fun r x => by simp [LT.FrK])⟩⟩
  case round =>
    obtain ⟨wo, rfl⟩ : ∃ x : World, x = wr := ⟨_, rfl⟩
    obtain ⟨k, rfl, HI⟩ := hrel
    by_cases hk : k < n
    · have pp1 : ((k : Int) < (n : Int)) = True := eq_true (by omega)
      have hTr := (HI.out.2.below.block _ (lt_blk HY.out.2.2.2.1)).trans HY.out.2.2.2.1
      have x0 := cell_of_blk _ _ _ _ _ hTr 0
      have x1 := cell_of_blk _ _ _ _ _ hTr 1
      have x2 := cell_of_blk _ _ _ _ _ hTr 2
      simp at x0 x1 x2
      clear hTr
      go_wp2_with fail
      clear x0 x1 x2
      refine (over_in (HY.out.2.1.later HI.out.2.below) HT.out.2 k k hk hk).mono ?_
      rintro e W1 ⟨⟨r, rfl, hr⟩, hb1⟩
      have H1 := Lib.hid (And.intro hr (HI.out.2.later hb1))
      clear hr hb1
      cases r
      · have HN := Lib.hid (H1.out.2.iff (fun r x => (LT.frK_skip (fun e => by have := H1.out.1.2 e; cases this)).symm))
        go_wp2_with fail
        go_roundw
        case rel => exact ⟨k + 1, by go_num, Lib.hid ⟨by omega, HN.out⟩⟩
        case measure => simp [intOf]; omega
      · have hbB := (H1.out.2.below.block _ (lt_blk HY.out.2.2.1)).trans HY.out.2.2.1
        have g0 := cell_of_blk _ _ _ _ _ hbB 0
        have g1 := cell_of_blk _ _ _ _ _ hbB 1
        simp at g0 g1
        obtain ⟨l, hl⟩ : ∃ l, a[k]? = some l := ⟨_, List.getElem?_eq_getElem (by rw [HG.out.2.2.2.1.la]; exact hk)⟩
        have hll := HG.out.2.2.2.2 k l hl
        have hlm : ∀ u, u ∈ l ↔ u < n ∧ k ∈ nb b u := fun u => by
          have := HG.out.2.2.2.1.mem k u
          rw [List.getD_eq_getElem?_getD, hl] at this
          exact this
        have hah := ahead_in (HY.out.1.later H1.out.2.below) k l hl (by omega)
        have HAH := Lib.hid hah
        have HL := Lib.hid (And.intro hlm hll)
        clear hbB hl hlm hah
        go_wp2_with fail
        clear g0 g1
        refine HAH.out.mono ?_
        rintro e W2 ⟨v', rfl, ho, hb⟩
        have hr1 := RowAt.of_own ho
        obtain ⟨A, c, rfl, _, _, _⟩ := rowAt_slice hr1
        rw [List.length_map] at hr1 ⊢
        have HR := Lib.hid (H1.out.2.row hb hr1)
        clear ho hb hr1 HAH
        go_wp2_with fail
        go_loopw [27] (fun v wr => ∃ j : Nat, v = .int .i64 (j : Int) ∧ Hid (j ≤ l.length ∧ FSR Y Q n (LT.FrJ (nb b) l k j) W1.heap.size (.slice A l.length c) l wr)) (fun v _ => l.length - (intOf v).toNat)
        case atStart => exact ⟨0, rfl, Lib.hid ⟨Nat.zero_le _, HR.out.iff (fun r x => LT.frJ_zero.symm)⟩⟩
        case round =>
          obtain ⟨wq, rfl⟩ : ∃ x : World, x = wr := ⟨_, rfl⟩
          obtain ⟨j, rfl, HJ⟩ := hrel
          by_cases hj : j < l.length
          · have pp2 : ((j : Int) < (l.length : Int)) = True := eq_true (by omega)
            have j0 : 0 ≤ (j : Int) := by omega
            have j1 : (j : Int) < (l.length : Int) := by omega
            obtain ⟨u, hu⟩ : ∃ u, l[j]? = some u := ⟨_, List.getElem?_eq_getElem hj⟩
            have hun : u < n := ((HL.out.1 u).1 (List.mem_of_getElem? hu)).1
            obtain ⟨g0, o0, rfl⟩ : ∃ g o, A = some ⟨g, o, none⟩ := by
              rcases HJ.out.2.row with ⟨h1, h2⟩ | ⟨g, o, cap, cur, h1, _⟩
              · have : l = [] := by simpa using h2
                rw [this] at hj; simp at hj
              · injection h1 with h1; exact ⟨g, o, h1⟩
            have hc3 := HJ.out.2.row.cell j (iv u) (by rw [List.getElem?_map, hu]; rfl)
            unfold iv at hc3
            have HU := Lib.hid hu
            have HS0 := Lib.hid (HT.out.2.start hun)
            clear hu
            go_wp2_with fail
            clear hc3
            go_loopw [9] (fun v wr => ∃ c' : Int, v = .int .i64 c' ∧ Hid (LT.On (nb b) n u c' ∧ (∀ r, LT.Past (nb b) u c' r → LT.Asks (nb b) k r) ∧ FSR Y Q n (fun r x => LT.FrJ (nb b) l k j r x ∨ (x = k ∧ LT.Past (nb b) u c' r)) W1.heap.size (.slice (some ⟨g0, o0, none⟩) l.length c) l wr)) (fun v _ => if intOf v < 0 then 0 else (deep.getD (intOf v).toNat 0 + 1).toNat)
            case atStart => exact ⟨(u : Int), rfl, Lib.hid ⟨HS0.out.1, fun r h => absurd h (HS0.out.2 r), HJ.out.2.iff (fun r x => ⟨.inl, fun e => e.elim id (fun e => absurd e.2 (HS0.out.2 r))⟩)⟩⟩
            case round =>
              obtain ⟨ws, rfl⟩ : ∃ x : World, x = wr := ⟨_, rfl⟩
              obtain ⟨c', rfl, HC⟩ := hrel
              rcases HC.out.1 with hm1 | ⟨cn, hcn, hcl, hco⟩
              · subst hm1
                have HE := Lib.hid (HC.out.2.2.iff (fun r x => show _ ↔ LT.FrJ (nb b) l k (j + 1) r x by rw [LT.frJ_succ HU.out, LT.stop_top HC.out.2.1 r]))
                go_wp2_with fail
                go_roundw
                case rel => exact ⟨j + 1, by go_num, Lib.hid ⟨by omega, HE.out⟩⟩
                case measure => simp [intOf]; omega
              · subst hcn
                have HCO := Lib.hid hco
                have qq : ¬ (cn : Int) < 0 := by omega
                have q0 : 0 ≤ (cn : Int) := by omega
                clear hco
                have hTr := (HC.out.2.2.fs.below.block _ (lt_blk HY.out.2.2.2.1)).trans HY.out.2.2.2.1
                have x0 := cell_of_blk _ _ _ _ _ hTr 0
                have x1 := cell_of_blk _ _ _ _ _ hTr 1
                have x2 := cell_of_blk _ _ _ _ _ hTr 2
                simp at x0 x1 x2
                clear hTr
                go_wp2_with fail
                clear x0 x1 x2
                refine (over_in (HY.out.2.1.later HC.out.2.2.below) HT.out.2 cn cn hcl hcl).mono ?_
                rintro e V1 ⟨⟨r1, rfl, hr1⟩, hb1⟩
                have HV1 := Lib.hid (And.intro hr1 (HC.out.2.2.later hb1))
                clear hr1 hb1
                cases r1
                · have HE := Lib.hid (HV1.out.2.iff (fun r x => show _ ↔ LT.FrJ (nb b) l k (j + 1) r x by
                    rw [LT.frJ_succ HU.out, LT.stop_out (v := k) (fun hw => ?_) (cn : Int) r]
                    rcases HCO.out with h | ⟨h, h2⟩
                    · have := HV1.out.1.2 (LT.ov_self h.1); cases this
                    · exact h2 hw))
                  go_wp2_with fail
                  go_roundw
                  case rel => exact ⟨j + 1, by go_num, Lib.hid ⟨by omega, HE.out⟩⟩
                  case measure => simp [intOf]; omega
                · have hcu : LT.Ov (nb b) cn u := by
                    rcases HCO.out with h | ⟨h, h2⟩
                    · exact h
                    · have := HV1.out.1.1 rfl
                      rw [h] at this
                      exact absurd this.1 h2
                  obtain ⟨xu, hxu, hon, hpast, dd, hdd, hmeas⟩ := HT.out.2.next hcu
                  have HXU := Lib.hid (And.intro hxu (And.intro hon (And.intro hpast (And.intro hdd hmeas))))
                  have HCU := Lib.hid hcu
                  clear hxu hon hpast hdd hmeas hcu HCO
                  by_cases hck : cn = k
                  · have qq2 : ((cn : Int) == (k : Int)) = true := by simp [hck]
                    have HA1 := Lib.hid (show LT.Asks (nb b) k cn from .inl hck)
                    clear hck
                    have c0 : (cn : Int) < (n : Int) := by omega
                    skip
                    go_wp2_with fail
                    skip
                    refine (HV1.out.2.add (Nat.le_of_eq HQ.out) hcl hk hn).mono ?_
                    rintro e V4 ⟨⟨b4, rfl⟩, hf4⟩
                    have HV4 := Lib.hid (hf4.iff (P' := fun r x => LT.FrJ (nb b) l k j r x ∨ (x = k ∧ LT.Past (nb b) u xu r)) (fun r x => by
                      rw [HXU.out.2.2.1 r]
                      constructor
                      · rintro ((h | h) | h)
                        · exact .inl h
                        · exact .inr ⟨h.1, .inl h.2⟩
                        · exact .inr ⟨h.2, .inr h.1⟩
                      · rintro (h | ⟨h1, h | h⟩)
                        · exact .inl (.inl h)
                        · exact .inl (.inr ⟨h1, h⟩)
                        · exact .inr ⟨h, h1⟩))
                    clear hf4
                    have hTr := (HV4.out.fs.below.block _ (lt_blk HY.out.2.2.2.1)).trans HY.out.2.2.2.1
                    have x0 := cell_of_blk _ _ _ _ _ hTr 0
                    have x1 := cell_of_blk _ _ _ _ _ hTr 1
                    have x2 := cell_of_blk _ _ _ _ _ hTr 2
                    simp at x0 x1 x2
                    clear hTr
                    go_wp2_with fail
                    clear x0 x1 x2
                    refine (up_in (HY.out.2.1.later HV4.out.below) cn xu HXU.out.1 hcl).mono ?_
                    rintro e V5 ⟨rfl, hb5⟩
                    have HV5 := Lib.hid (HV4.out.later hb5)
                    clear hb5
                    go_wp2_with fail
                    go_roundw
                    case rel => exact ⟨xu, rfl, Lib.hid ⟨HXU.out.2.1, fun r hr => by
                      rcases (HXU.out.2.2.1 r).1 hr with e | e
                      · exact HC.out.2.1 r e
                      · rw [e]; exact HA1.out, HV5.out⟩⟩
                    case measure =>
                      obtain ⟨h1, h2⟩ := HXU.out.2.2.2
                      have h3 : ¬ ((cn : Int) < 0) := by omega
                      rcases h2 with h2 | ⟨c2, d2, h2, _, h4, h5⟩
                      · subst h2
                        simp [intOf, h1, h3]
                      · subst h2
                        have h6 : ¬ ((c2 : Int) < 0) := by omega
                        simp [intOf, h1, h3, h4, h6]
                        omega
                  · have qq2 : ((cn : Int) == (k : Int)) = false := beq_eq_false_iff_ne.mpr (by omega)
                    have hTr := (HV1.out.2.fs.below.block _ (lt_blk HY.out.2.2.2.1)).trans HY.out.2.2.2.1
                    have x0 := cell_of_blk _ _ _ _ _ hTr 0
                    have x1 := cell_of_blk _ _ _ _ _ hTr 1
                    have x2 := cell_of_blk _ _ _ _ _ hTr 2
                    simp at x0 x1 x2
                    clear hTr
                    have HCK := Lib.hid hck
                    clear hck
                    go_wp2_with fail
                    clear x0 x1 x2 qq2
                    refine (over_in (HY.out.2.1.later HV1.out.2.below) HT.out.2 cn k hcl hk).mono ?_
                    rintro e V2 ⟨⟨r2, rfl, hr2⟩, hb2⟩
                    have HV2 := Lib.hid (And.intro hr2 (HV1.out.2.later hb2))
                    clear hr2 hb2
                    cases r2
                    · skip
                      have HA1 := Lib.hid (show LT.Asks (nb b) k cn from .inr (fun e => by have := HV2.out.1.2 e; cases this))
                      clear HCK
                      have c0 : (cn : Int) < (n : Int) := by omega
                      skip
                      go_wp2_with fail
                      skip
                      refine (HV2.out.2.add (Nat.le_of_eq HQ.out) hcl hk hn).mono ?_
                      rintro e V4 ⟨⟨b4, rfl⟩, hf4⟩
                      have HV4 := Lib.hid (hf4.iff (P' := fun r x => LT.FrJ (nb b) l k j r x ∨ (x = k ∧ LT.Past (nb b) u xu r)) (fun r x => by
                        rw [HXU.out.2.2.1 r]
                        constructor
                        · rintro ((h | h) | h)
                          · exact .inl h
                          · exact .inr ⟨h.1, .inl h.2⟩
                          · exact .inr ⟨h.2, .inr h.1⟩
                        · rintro (h | ⟨h1, h | h⟩)
                          · exact .inl (.inl h)
                          · exact .inl (.inr ⟨h1, h⟩)
                          · exact .inr ⟨h, h1⟩))
                      clear hf4
                      have hTr := (HV4.out.fs.below.block _ (lt_blk HY.out.2.2.2.1)).trans HY.out.2.2.2.1
                      have x0 := cell_of_blk _ _ _ _ _ hTr 0
                      have x1 := cell_of_blk _ _ _ _ _ hTr 1
                      have x2 := cell_of_blk _ _ _ _ _ hTr 2
                      simp at x0 x1 x2
                      clear hTr
                      go_wp2_with fail
                      clear x0 x1 x2
                      refine (up_in (HY.out.2.1.later HV4.out.below) cn xu HXU.out.1 hcl).mono ?_
                      rintro e V5 ⟨rfl, hb5⟩
                      have HV5 := Lib.hid (HV4.out.later hb5)
                      clear hb5
                      go_wp2_with fail
                      go_roundw
                      case rel => exact ⟨xu, rfl, Lib.hid ⟨HXU.out.2.1, fun r hr => by
                        rcases (HXU.out.2.2.1 r).1 hr with e | e
                        · exact HC.out.2.1 r e
                        · rw [e]; exact HA1.out, HV5.out⟩⟩
                      case measure =>
                        obtain ⟨h1, h2⟩ := HXU.out.2.2.2
                        have h3 : ¬ ((cn : Int) < 0) := by omega
                        rcases h2 with h2 | ⟨c2, d2, h2, _, h4, h5⟩
                        · subst h2
                          simp [intOf, h1, h3]
                        · subst h2
                          have h6 : ¬ ((c2 : Int) < 0) := by omega
                          simp [intOf, h1, h3, h4, h6]
                          omega
                    · have HE := Lib.hid (HV2.out.2.iff (fun r x => show _ ↔ LT.FrJ (nb b) l k (j + 1) r x by
                        rw [LT.frJ_succ HU.out, HT.out.2.stop_at HCU.out (fun e => e.elim HCK.out (fun e => e (HV2.out.1.1 rfl))) HC.out.2.1 r]))
                      go_wp2_with fail
                      go_roundw
                      case rel => exact ⟨j + 1, by go_num, Lib.hid ⟨by omega, HE.out⟩⟩
                      case measure => simp [intOf]; omega
          · obtain rfl : j = l.length := by have := HJ.out.1; omega
            have pp2 : ((l.length : Int) < (l.length : Int)) = False := eq_false (by omega)
            have HE := Lib.hid (HJ.out.2.fs.iff (fun r x => LT.frJ_end (g := nb b) (l := l) (k := k) (r := r) (x := x) (fun u hw => by rw [HL.out.1]; exact ⟨fun e => e.2, fun e => ⟨HT.out.2.lt u hw, e⟩⟩)))
            go_wp2_with fail
            go_roundw
            case rel => exact ⟨k + 1, by go_num, Lib.hid ⟨by omega, HE.out⟩⟩
            case measure => simp [intOf]; omega
    · obtain rfl : k = n := by have := HI.out.1; omega
      have pp1 : ((k : Int) < (k : Int)) = False := eq_false (by omega)
      have HE := Lib.hid (HI.out.2.iff (fun r x => LT.frK_end (g := nb b) (n := k) (r := r) (x := x) HT.out.2.lt))
      go_wp2_with fail
      go_ret
      obtain ⟨S', hS⟩ := HE.out.bags
      exact ⟨Q, S', rfl, hS, below_two HY.out.2.2.2.2 HE.out.below⟩
end Go.Proofs.Ytnkbbjeepdjamaa
