/- refinerylaw10.LoopsRing: the walk. Conditions: the numbers are of their kinds. -/
import Derived.Test.YtnkbbjeepdjamaaLRiP
import Derived.Test.YtnkbbjeepdjamaaDOvW
namespace Go.Proofs.Ytnkbbjeepdjamaa
open Go.RowKit
/-- Two graphs in memory, each in a box. -/
def AR (W : World) (n q p q' p' B B' : Nat) (es es' : List (Nat × Nat)) (X : World) : Prop :=
  ∃ S S', Gr X W.heap.size (.agg #[.slice (some ⟨q, 0, none⟩) n n, .slice (some ⟨p, 0, none⟩) n n]) (graphB n es) (graphA n es) S ∧ Gr X W.heap.size (.agg #[.slice (some ⟨q', 0, none⟩) n n, .slice (some ⟨p', 0, none⟩) n n]) (graphB n es') (graphA n es') S' ∧
    X.heap[B]? = some (.cells #[.slice (some ⟨q, 0, none⟩) n n, .slice (some ⟨p, 0, none⟩) n n] 28 (0, 0)) ∧ X.heap[B']? = some (.cells #[.slice (some ⟨q', 0, none⟩) n n, .slice (some ⟨p', 0, none⟩) n n] 28 (0, 0)) ∧
    Below W.heap.size W X ∧ ¬ S B ∧ ¬ S B' ∧ ¬ S' B ∧ ¬ S' B' ∧ ∀ g, S g → ¬ S' g
theorem AR.swap {W : World} {n q p q' p' B B' : Nat} {es es' : List (Nat × Nat)} {X : World} (h : AR W n q p q' p' B B' es es' X) : AR W n q' p' q p B' B es' es X := by
  obtain ⟨S, S', h1, h2, h3, h4, h5, h6, h7, h8, h9, h10⟩ := h
  exact ⟨S', S, h2, h1, h4, h3, h5, h9, h8, h7, h6, fun g a b => h10 g b a⟩
theorem AR.later {W : World} {n q p q' p' B B' : Nat} {es es' : List (Nat × Nat)} {X X' : World} (h : AR W n q p q' p' B B' es es' X) (hb : Below X.heap.size X X') : AR W n q p q' p' B B' es es' X' := by
  obtain ⟨S, S', h1, h2, h3, h4, h5, h6⟩ := h
  exact ⟨S, S', h1.later hb, h2.later hb, (hb.block _ (lt_blk h3)).trans h3, (hb.block _ (lt_blk h4)).trans h4, below_two h5 hb, h6⟩
theorem AR.c0 {W : World} {n q p q' p' B B' : Nat} {es es' : List (Nat × Nat)} {X : World} (h : AR W n q p q' p' B B' es es' X) : X.cell? ⟨B, 0, none⟩ = some (.slice (some ⟨q, 0, none⟩) n n) := by
  obtain ⟨_, _, _, _, h3, _⟩ := h
  exact cell_of_blk _ _ _ _ _ h3 0
theorem AR.c1 {W : World} {n q p q' p' B B' : Nat} {es es' : List (Nat × Nat)} {X : World} (h : AR W n q p q' p' B B' es es' X) : X.cell? ⟨B, 1, none⟩ = some (.slice (some ⟨p, 0, none⟩) n n) := by
  obtain ⟨_, _, _, _, h3, _⟩ := h
  exact cell_of_blk _ _ _ _ _ h3 1
theorem AR.join {W : World} {n q p q' p' B B' : Nat} {es es' : List (Nat × Nat)} {X : World} (h : AR W n q p q' p' B B' es es' X) (hn : 0 < n) (hl : es.length ≤ 1000) (i j : Nat) (hi : i < n) (hj : j < n) :
    Calls Try.prog 27 #[.agg #[.slice (some ⟨q, 0, none⟩) n n, .slice (some ⟨p, 0, none⟩) n n], .int .i64 i, .int .i64 j] X fun e w' => e = .returned (.tuple #[]) ∧ AR W n q p q' p' B B' (es ++ [(i, j)]) es' w' := by
  obtain ⟨S, S', h1, h2, h3, h4, h5, h6, h7, h8, h9, h10⟩ := h
  have hr := graph_rows n hn es
  refine (join_any h1 i j (by rw [hr.lb]; exact hi) (by rw [hr.lb]; exact hj) ?_ ?_).mono ?_
  · have := (hr.few i _ (getD_some (by rw [hr.lb]; exact hi))).1; omega
  · have := (hr.fewA j _ (getD_some (by rw [hr.la]; exact hj))).1; omega
  · rintro e w' ⟨rfl, S1, g1, g2, g3⟩
    have eB : joinB (graphB n es) i j = graphB n (es ++ [(i, j)]) := by rw [graphB_snoc]; simp [Nat.mod_eq_of_lt hi, Nat.mod_eq_of_lt hj]
    have eA : joinA (graphB n es) (graphA n es) i j = graphA n (es ++ [(i, j)]) := by rw [graphA_snoc]; simp [Nat.mod_eq_of_lt hi, Nat.mod_eq_of_lt hj]
    rw [eB, eA] at g1
    have no : ∀ g, g < X.heap.size → ¬ S g → ¬ S1 g := fun g hg hn e => by
      rcases g3 g e with e | e
      · exact hn e
      · omega
    refine ⟨rfl, S1, S', g1, h2.only g2 (fun g hg e => h10 g e hg), (g2.block B (lt_blk h3) h6).trans h3, (g2.block B' (lt_blk h4) h7).trans h4, h5.trans (g2.below h5.size (fun g hg e => by have := (h1.lt e).2; omega)), no _ (lt_blk h3) h6, no _ (lt_blk h4) h7, h8, h9, fun g hg e => ?_⟩
    exact no g ((h2.lt e).1) (fun e2 => h10 g e2 e) hg
def ARc (W : World) (n q p q' p' B B' : Nat) (es es' : List (Nat × Nat)) (X : World) : Prop :=
  X.cell? ⟨B, 0, none⟩ = some (.slice (some ⟨q, 0, none⟩) n n) ∧ X.cell? ⟨B, 1, none⟩ = some (.slice (some ⟨p, 0, none⟩) n n) ∧ Hid (AR W n q p q' p' B B' es es' X)
theorem ARc.later {W : World} {n q p q' p' B B' : Nat} {es es' : List (Nat × Nat)} {X X' : World} (h : ARc W n q p q' p' B B' es es' X) (hb : Below X.heap.size X X') : ARc W n q p q' p' B B' es es' X' :=
  ⟨(h.2.2.out.later hb).c0, (h.2.2.out.later hb).c1, Lib.hid (h.2.2.out.later hb)⟩
/-- What the calls ask of such a graph. -/
structure GFit (n : Nat) (b a : List (List Nat)) : Prop where
  lb : b.length = n
  few : Few b
  twin : Twin n b a
  bl : ∀ (i : Nat) (l : List Nat), b[i]? = some l → l.length ≤ 1048575
  al : ∀ (i : Nat) (l : List Nat), a[i]? = some l → l.length ≤ 1048575
theorem gfit {n : Nat} {es : List (Nat × Nat)} (hn : 0 < n) (hn2 : n ≤ 1000) (hl : es.length ≤ 1000) : GFit n (graphB n es) (graphA n es) := by
  have hrw := graph_rows n hn es
  exact ⟨hrw.lb, hrw.fewOf (by omega), graph_twin n hn es, fun i l hi => by have := (hrw.few i l hi).1; omega, fun i l hi => by have := (hrw.fewA i l hi).1; omega⟩
theorem AR.dom {W : World} {n q p q' p' B B' : Nat} {es es' : List (Nat × Nat)} {X : World} (h : AR W n q p q' p' B B' es es' X) (hn : 0 < n) (hn2 : n ≤ 1000) (hl : es.length ≤ 1000) :
    Calls Try.prog 19 #[.agg #[.slice (some ⟨q, 0, none⟩) n n, .slice (some ⟨p, 0, none⟩) n n]] X fun e w' => ∃ qu qb qd ts up deep base, e = .returned (treeV qu qb qd n) ∧ TR w' base n qu qb qd ts up deep (belows up n n) ∧ LT.DTree (nb (graphB n es)) n up deep ∧ Below X.heap.size X w' := by
  obtain ⟨S, S', h1, _, _, _, h5, _⟩ := h
  have hf := gfit (es := es) hn hn2 hl
  refine (of_calls hn (by omega) X h1 hf.lb hf.few hf.twin hf.bl hf.al h5.size).mono ?_
  rintro e w' ⟨qu, qb, qd, ts, up, deep, he, htr, hdt, hb⟩
  exact ⟨qu, qb, qd, ts, up, deep, _, he, htr, hdt, hb⟩
theorem AR.loops {W : World} {n q p q' p' B B' : Nat} {es es' : List (Nat × Nat)} {X : World} (h : AR W n q p q' p' B B' es es' X) (hn : 0 < n) (hn2 : n ≤ 300) (hl : es.length ≤ 1000) {qu qb qd base : Nat} {ts : List Value} {up deep : List Int} (htr : TR X base n qu qb qd ts up deep (belows up n n)) (hdt : LT.DTree (nb (graphB n es)) n up deep) (h1 : ∃ s, ∀ y, HB (nb (graphB n es)) y → y = s) :
    Calls Try.prog 44 #[.agg #[.slice (some ⟨q, 0, none⟩) n n, .slice (some ⟨p, 0, none⟩) n n], treeV qu qb qd n] X fun e w' => ∃ v L, e = .returned v ∧ LRes X.heap.size (nb (graphB n es)) n v L w' ∧ Below X.heap.size X w' := by
  obtain ⟨S, S', g1, _, _, _, h5, _⟩ := h
  have hf := gfit (es := es) hn (by omega) hl
  obtain ⟨s, hs⟩ := h1
  refine loops_calls g1 hf.lb hf.few hf.twin hn2 hf.al htr hdt (fun hl h1 h2 => ?_)
  have := nodup_nat hl [s] h1 (fun a ha => by rw [hs a (h2 a ha).2]; simp)
  simp at this
  omega
/-- What the last test reads. -/
def LS15 (W : World) (n q p q' p' B B' : Nat) (es es' : List (Nat × Nat)) (g s i cl bz : Nat) (Al : Option Addr) (xs : List Int) (X : World) : Prop :=
  X.cell? ⟨g, 0, none⟩ = some (.int .i64 (s : Int)) ∧ X.cell? ⟨g, 1, none⟩ = some (.slice Al i cl) ∧ X.cell? ⟨B', 0, none⟩ = some (.slice (some ⟨q', 0, none⟩) n n) ∧ X.cell? ⟨B', 1, none⟩ = some (.slice (some ⟨p', 0, none⟩) n n) ∧
    Hid (AR W n q' p' q p B' B es' es X ∧ IsSetI X bz (.slice Al i cl) xs ∧ Below W.heap.size W X)
theorem LS15.later {W : World} {n q p q' p' B B' : Nat} {es es' : List (Nat × Nat)} {g s i cl bz : Nat} {Al : Option Addr} {xs : List Int} {X X' : World} (h : LS15 W n q p q' p' B B' es es' g s i cl bz Al xs X) (hb : Below X.heap.size X X') : LS15 W n q p q' p' B B' es es' g s i cl bz Al xs X' := by
  obtain ⟨h1, h2, h3, h4, h5⟩ := h
  have k : ∀ {p : Addr} {v : Value}, X.cell? p = some v → X'.cell? p = some v := fun hc => (hb.cell (World.block_lt_of_cell? X _ hc)).trans hc
  exact ⟨k h1, k h2, k h3, k h4, Lib.hid ⟨h5.out.1.later hb, h5.out.2.1.only (Only.of_below hb) (fun g hg e => by have := (isset_lt h5.out.2.1 hg).2; omega), below_two h5.out.2.2 hb⟩⟩
set_option maxRecDepth 100000 in
set_option maxHeartbeats 8000000 in
theorem lri_calls (N F : Nat) (hN : N ≤ 255) (hF : F ≤ 255) (W : World) :
    Calls Try.prog 13 #[.int .u8 N, .int .u8 F] W fun e W' => e = .returned (.bool true) ∧ Below W.heap.size W W' := by
  obtain ⟨k, hk⟩ : ∃ k, 1 + N % 20 = k := ⟨_, rfl⟩
  obtain ⟨n, hn⟩ : ∃ n, k + 1 = n := ⟨_, rfl⟩
  have hk0 : 0 < k := by omega
  have hk20 : k ≤ 20 := by omega
  have e5 : 1 + (N : Int) % 20 = (k : Int) := by omega
  have e6 : (k : Int) + 1 = (n : Int) := by omega
  have HN := Lib.hid (And.intro e5 (And.intro e6 (And.intro hk hn)))
  clear hk hn e5 e6
  go_enter Try.func13, Try.ntmps13
  go_wp2_with fail
  refine (awake10 W).mono ?_
  rintro e W1 ⟨rfl, hb1⟩
  have H1 := Lib.hid hb1
  clear hb1
  go_wp2_with fail
  rw [HN.out.1]
  rw [HN.out.2.1]
  refine (new_calls n (by have := HN.out.2.2.2; omega) W1).mono ?_
  rintro e w1 ⟨gv, rfl, ⟨S, hg⟩, hb⟩
  obtain ⟨q, p, rfl⟩ := hg.form
  have H2 := Lib.hid (And.intro hg (below_two H1.out hb))
  clear hg hb
  go_wp2_with fail
  rw [HN.out.2.1]
  refine (new_calls n (by have := HN.out.2.2.2; omega) w1).mono ?_
  rintro e w2 ⟨gv', rfl, ⟨S', hg'⟩, hb⟩
  obtain ⟨q', p', rfl⟩ := hg'.form
  have H3 := Lib.hid (And.intro (H2.out.1.later hb) (And.intro hg' (And.intro (below_two H2.out.2 hb) (fun g (hg : S g) (hg2 : S' g) => show False from by have := (H2.out.1.lt hg).1; have := (hg'.lt hg2).2; omega))))
  have HB1 := Lib.hid (Nat.le_trans H2.out.2.size hb.size |> fun _ => (show W.heap.size ≤ w1.heap.size from H2.out.2.size))
  clear hg' hb H2
  go_upto_region 5 with (fail)
  generalize hX : World.alloc (World.alloc w2 _) _ = X
  obtain ⟨hx, hx1, hz, hbx⟩ := two_bx hX
  obtain ⟨B, hB⟩ : ∃ k, w2.heap.size = k := ⟨_, rfl⟩
  obtain ⟨B', hB'⟩ : ∃ k, B + 1 = k := ⟨_, rfl⟩
  have har : AR W n q p q' p' B B' [] [] X := by
    obtain ⟨g1, g2, g3, g4⟩ := H3.out
    simp only [List.length_replicate] at g1 g2
    have l1 := fun g (h : S g) => (g1.lt h).1
    have l2 := fun g (h : S' g) => (g2.lt h).1
    exact ⟨S, S', (g1.lower H1.out.size).later hbx, (g2.lower HB1.out).later hbx, hB ▸ hx, hB' ▸ hB ▸ hx1, below_two g3 hbx, fun e => by have := l1 _ e; omega, fun e => by have := l1 _ e; omega, fun e => by have := l2 _ e; omega, fun e => by have := l2 _ e; omega, g4⟩
  rw [hB] at hx hx1 ⊢
  rw [hB'] at hx1 ⊢
  have HA := Lib.hid har
  have x0 := cell_of_blk _ _ _ _ _ hx 0
  have x1 := cell_of_blk _ _ _ _ _ hx 1
  simp at x0 x1
  obtain ⟨f, hf⟩ : ∃ f, F % k = f := ⟨_, rfl⟩
  have hfk : f < k := hf ▸ Nat.mod_lt _ hk0
  have hne : (k = 0) = False := eq_false (by omega)
  have hmf : (IntKind.i64.wrap (F : Int)).tmod (k : Int) = (f : Int) := by
    rw [show IntKind.i64.wrap (F : Int) = (F : Int) by rw [IntKind.wrap_i64]; omega, Int.tmod_eq_emod_of_nonneg (by omega), ← hf]
    omega
  have ewf : IntKind.i64.wrap (1 + (f : Int)) = 1 + (f : Int) := by rw [IntKind.wrap_i64]; omega
  obtain ⟨s, hs⟩ : ∃ s, 1 + f = s := ⟨_, rfl⟩
  have es : 1 + (f : Int) = (s : Int) := by omega
  have HF := Lib.hid (And.intro hf (And.intro hmf (And.intro es hs)))
  have hSd : X.drew.cell? ⟨B, 0, none⟩ = some (.slice (some ⟨q, 0, none⟩) n n) ∧ X.drew.cell? ⟨B, 1, none⟩ = some (.slice (some ⟨p, 0, none⟩) n n) ∧ Hid (AR W n q p q' p' B B' [] [] X.drew) := ⟨x0, x1, Lib.hid (har.later ((Below.refl _ _).drew))⟩
  clear hX hx hx1 hz hbx hB hB' har hf es hs H3 H1 HB1
  go_region_held3 (fun Y => Y.cell? ⟨B, 0, none⟩ = some (.slice (some ⟨q, 0, none⟩) n n) ∧ Y.cell? ⟨B, 1, none⟩ = some (.slice (some ⟨p, 0, none⟩) n n) ∧ Hid True)
    (first | exact ⟨hSd.1, hSd.2.1, Lib.hid trivial⟩ | exact ⟨y0, y1, Lib.hid trivial⟩)
    (first
      | (go_at_call 27; rw [HF.out.2.2.1]; refine (hSd.2.2.out.join (by have := HN.out.2.2.2; omega) (by simp) 0 s (by have := HN.out.2.2.2; omega) (by have := HN.out.2.2.2; have := HF.out.2.2.2; omega)).mono ?_; rintro e w3 ⟨rfl, har3⟩; have y0 := har3.c0; have y1 := har3.c1))
  rename_i hh
  have HA3 := Lib.hid har3
  have x0 := har3.swap.c0
  have x1 := har3.swap.c1
  clear hh hSd har3 y0 y1 hmf ewf hne HA
  go_wp2_with fail
  refine (HA3.out.swap.join (by have := HN.out.2.2.2; omega) (by simp) 0 1 (by have := HN.out.2.2.2; omega) (by have := HN.out.2.2.2; omega)).mono ?_
  rintro e w4 ⟨rfl, har4⟩
  have HA4 := Lib.hid (show AR W n q p q' p' B B' (ringE k s 0) (rowE (min 0 (k - 1))) w4 from by rw [Nat.zero_min]; exact har4.swap)
  clear har4 x0 x1 HA3
  go_wp2_with fail
  go_loopw [32] (fun v wr => ∃ i : Nat, v = .int .i64 (i : Int) ∧ Hid (i ≤ k ∧ AR W n q p q' p' B B' (ringE k s i) (rowE (min i (k - 1))) wr)) (fun v _ => k - (intOf v).toNat)
  case atStart => exact ⟨0, rfl, Lib.hid ⟨Nat.zero_le _, HA4.out⟩⟩
  case round =>
    obtain ⟨wo, rfl⟩ : ∃ x : World, x = wr := ⟨_, rfl⟩
    obtain ⟨i, rfl, HI⟩ := hrel
    have har := HI.out.2
    by_cases hi : i < k
    · have pp1 : ((i : Int) < (k : Int)) = True := eq_true (by omega)
      obtain ⟨j, hj⟩ : ∃ j, i + 1 = j := ⟨_, rfl⟩
      obtain ⟨u, hu⟩ : ∃ u, j % k = u := ⟨_, rfl⟩
      obtain ⟨v, hv⟩ : ∃ v, 1 + u = v := ⟨_, rfl⟩
      have huk : u < k := hu ▸ Nat.mod_lt _ hk0
      have HJ := Lib.hid (And.intro hj (And.intro hu hv))
      have w1 : (i : Int) + 1 = (j : Int) := by omega
      have w2 : 1 + (i : Int) = (j : Int) := by omega
      have w3 : (j : Int).tmod (k : Int) = (u : Int) := by
        rw [Int.tmod_eq_emod_of_nonneg (by omega), ← hu]
        omega
      have w4 : 1 + (u : Int) = (v : Int) := by omega
      have wj : IntKind.i64.wrap (j : Int) = (j : Int) := by rw [IntKind.wrap_i64]; omega
      have wv : IntKind.i64.wrap (v : Int) = (v : Int) := by rw [IntKind.wrap_i64]; omega
      have hne : (k = 0) = False := eq_false (by omega)
      have hSd : wo.drew.cell? ⟨B, 0, none⟩ = some (.slice (some ⟨q, 0, none⟩) n n) ∧ wo.drew.cell? ⟨B, 1, none⟩ = some (.slice (some ⟨p, 0, none⟩) n n) ∧ Hid (AR W n q p q' p' B B' (ringE k s i) (rowE (min i (k - 1))) wo.drew) := ⟨har.c0, har.c1, Lib.hid (har.later ((Below.refl _ _).drew))⟩
      clear har hu hv
      go_wp2_with fail
      go_region_held3 (fun Y => Y.cell? ⟨B, 0, none⟩ = some (.slice (some ⟨q, 0, none⟩) n n) ∧ Y.cell? ⟨B, 1, none⟩ = some (.slice (some ⟨p, 0, none⟩) n n) ∧ Hid True)
        (first | exact ⟨hSd.1, hSd.2.1, Lib.hid trivial⟩ | exact ⟨y0, y1, Lib.hid trivial⟩)
        (first
          | (go_at_call 27; refine (hSd.2.2.out.join (by have := HN.out.2.2.2; omega) (by simp [ringE]; omega) j v (by have := HN.out.2.2.2; omega) (by have := HN.out.2.2.2; have := HJ.out.2.2; omega)).mono ?_; rintro e w5 ⟨rfl, har5⟩; have y0 := har5.c0; have y1 := har5.c1))
      rename_i hh
      have hrg : ringE k s i ++ [(j, v)] = ringE k s j := by
        rw [← HJ.out.1, ringE_snoc, ← HJ.out.2.2, ← HJ.out.2.1, ← HJ.out.1, Nat.add_comm 1 i]
      rw [hrg] at har5
      have HA5 := Lib.hid har5
      have x0 := har5.swap.c0
      have x1 := har5.swap.c1
      clear hh hSd har5 y0 y1 hrg w3 w4 wv hne
      by_cases hjk : j < k
      · have pp2 : ((j : Int) < (k : Int)) = True := eq_true (by omega)
        obtain ⟨m, hm⟩ : ∃ m, 2 + i = m := ⟨_, rfl⟩
        have w6 : 2 + (i : Int) = (m : Int) := by omega
        have hmin : min i (k - 1) = i := by omega
        have hmin2 : min j (k - 1) = i + 1 := by omega
        have HM := Lib.hid (And.intro hmin (And.intro hmin2 hm))
        clear hmin hmin2 hm
        go_wp2_with fail
        refine (HA5.out.swap.join (by have := HN.out.2.2.2; omega) (by rw [HM.out.1]; simp [rowE]; omega) j m (by have := HN.out.2.2.2; omega) (by have := HN.out.2.2.2; have := HM.out.2.2; omega)).mono ?_
        rintro e w6 ⟨rfl, har6⟩
        have hrw : rowE i ++ [(j, m)] = rowE (i + 1) := by rw [rowE_snoc, ← HJ.out.1, ← HM.out.2.2, Nat.add_comm 1 i]
        rw [HM.out.1, hrw] at har6
        have HA6 := Lib.hid (show AR W n q p q' p' B B' (ringE k s j) (rowE (min j (k - 1))) w6 from by rw [HM.out.2.1]; exact har6.swap)
        clear har6 hrw x0 x1
        go_wp2_with fail
        go_roundw
        case rel => exact ⟨j, by go_num, Lib.hid ⟨by omega, HA6.out⟩⟩
        case measure => simp [intOf]; omega
      · have pp2 : ((j : Int) < (k : Int)) = False := eq_false (by omega)
        have HA6 := Lib.hid (show AR W n q p q' p' B B' (ringE k s j) (rowE (min j (k - 1))) w5 from by
          have h1 : min j (k - 1) = min i (k - 1) := by omega
          rw [h1]; exact HA5.out)
        clear x0 x1
        go_wp2_with fail
        go_roundw
        case rel => exact ⟨j, by go_num, Lib.hid ⟨by omega, HA6.out⟩⟩
        case measure => simp [intOf]; omega
    · obtain rfl : i = k := by have := HI.out.1; omega
      have pp1 : ((i : Int) < (i : Int)) = False := eq_false (by omega)
      have hmin : min i (i - 1) = i - 1 := by omega
      rw [hmin] at har
      have HA7 := Lib.hid har
      clear har hmin
      have hSd : ARc W n q p q' p' B B' (ringE i s i) (rowE (i - 1)) wo.drew := ⟨HA7.out.c0, HA7.out.c1, Lib.hid (HA7.out.later ((Below.refl _ _).drew))⟩
      have hnn := HN.out.2.2.2
      have hs1 := HF.out.2.2.2
      have hring : RingG (nb (graphB n (ringE i s i))) i s := fun u v => by rw [← hnn]; exact nb_ring hk0 (by omega) u v
      have HG := Lib.hid (show 0 < n ∧ n ≤ 300 ∧ (ringE i s i).length ≤ 1000 ∧ (rowE (i - 1)).length ≤ 1000 ∧ RingG (nb (graphB n (ringE i s i))) i s ∧ (1 ≤ s ∧ s ≤ i) ∧ ∀ y, ¬ HB (nb (graphB n (rowE (i - 1)))) y from
        ⟨by omega, by omega, by simp [ringE]; omega, by simp [rowE]; omega, hring, by omega, fun y => by rw [← hnn]; exact row_none (fun u v => nb_row hk0 u v) y⟩)
      clear hnn hs1 hring
      go_wp2_with fail
      go_region_held3 (fun Y => Y.cell? ⟨B, 0, none⟩ = some (.slice (some ⟨q, 0, none⟩) n n) ∧ Y.cell? ⟨B, 1, none⟩ = some (.slice (some ⟨p, 0, none⟩) n n) ∧ Hid (AR W n q p q' p' B B' (ringE i s i) (rowE (i - 1)) Y))
        (first | exact hSd | exact (hSd.later hb1).later hb2 | exact hSd.later hb1)
        (first
          | (go_at_call 19; refine (hSd.2.2.out.dom HG.out.1 (by have := HG.out.2.1; omega) HG.out.2.2.1).mono ?_; rintro e y1 ⟨qu, qb, qd, ts, up, deep, base, rfl, htr, hdt, hb1⟩)
          | (go_at_call 44; refine ((hSd.later hb1).2.2.out.loops HG.out.1 HG.out.2.1 HG.out.2.2.1 htr hdt ⟨s, fun y h => (HG.out.2.2.2.2.1.hb hk0 HG.out.2.2.2.2.2.1 y).1 h⟩).mono ?_; rintro e y2 ⟨vl, L, rfl, hlr, hb2⟩))
      rename_i hh
      have hn1 := HN.out.2.2.2
      rw [← hn1] at hlr
      have hrg := HG.out.2.2.2.2.1
      rw [← hn1] at hrg
      obtain ⟨Al, cl, g, cc, xs, rfl, rfl, d0, d1, hset, hxl, hx0⟩ := hlr.ring hrg hk0 HG.out.2.2.2.2.2.1
      obtain ⟨bz, hbz⟩ : ∃ k, y1.heap.size = k := ⟨_, rfl⟩
      rw [hbz] at hset
      have hS0 : LS15 W n q p q' p' B B' (ringE i s i) (rowE (i - 1)) g s i cl bz Al xs y2 := ⟨d0, d1, hh.2.2.out.swap.c0, hh.2.2.out.swap.c1, Lib.hid ⟨hh.2.2.out.swap, hset, by obtain ⟨_, _, _, _, _, _, h5, _⟩ := hh.2.2.out; exact h5⟩⟩
      have hSe := hS0.later (X' := y2.drew) ((Below.refl y2.heap.size y2).drew)
      have HXS := Lib.hid (And.intro hxl hx0)
      have hxi : xs.length ≤ 1048576 := by omega
      have hmf := HF.out.2.1
      have wes := HF.out.2.2.1
      have ws : IntKind.i64.wrap (s : Int) = (s : Int) := by rw [IntKind.wrap_i64]; have := HF.out.2.2.2; omega
      have hne : (i = 0) = False := eq_false (by omega)
      clear hh hlr hb1 hb2 htr hdt hSd hn1 hrg d0 d1 hset hxl hx0 hbz hS0
      go_wp2_with fail
      go_region_held3 (fun X => X.cell? ⟨g, 0, none⟩ = some (.int .i64 (s : Int)) ∧ X.cell? ⟨g, 1, none⟩ = some (.slice Al i cl) ∧ X.cell? ⟨B', 0, none⟩ = some (.slice (some ⟨q', 0, none⟩) n n) ∧ X.cell? ⟨B', 1, none⟩ = some (.slice (some ⟨p', 0, none⟩) n n) ∧
          Hid (AR W n q' p' q p B' B (rowE (i - 1)) (ringE i s i) X ∧ IsSetI X bz (.slice Al i cl) xs ∧ Below W.heap.size W X))
        (first | exact hSe | exact (((hSe.later hb1).later hb2).later hb3).later hb4 | exact ((hSe.later hb1).later hb2).later hb3 | exact (hSe.later hb1).later hb2 | exact hSe.later hb1)
        (first
          | (go_at_call 41; refine (lenA Al i cl _).mono ?_; rintro e z1 ⟨rfl, hb1⟩)
          | (go_at_call 34; refine (hasI bz (.slice Al i cl) xs 0 _ (hSe.later hb1).2.2.2.2.out.2.1 hxi).mono ?_; rintro e z2 ⟨rfl, hb2⟩; rw [decide_eq_false HXS.out.2])
          | (go_at_call 19; refine (((hSe.later hb1).later hb2).2.2.2.2.out.1.dom HG.out.1 (by have := HG.out.2.1; omega) HG.out.2.2.2.1).mono ?_; rintro e z3 ⟨qu2, qb2, qd2, ts2, up2, deep2, base2, rfl, htr, hdt, hb3⟩)
          | (go_at_call 44; refine ((((hSe.later hb1).later hb2).later hb3).2.2.2.2.out.1.loops HG.out.1 HG.out.2.1 HG.out.2.2.2.1 htr hdt ⟨0, fun y h => absurd h (HG.out.2.2.2.2.2.2 y)⟩).mono ?_; rintro e z4 ⟨vl, L, rfl, hlr, hb4⟩; obtain ⟨A9, c9, rfl⟩ := hlr.none HG.out.2.2.2.2.2.2))
      have hbl := (((((hSe.later hb1).later hb2).later hb3).later hb4)).2.2.2.2.out.2.2
      have HBL := Lib.hid hbl
      clear hSe hb1 hb2 hb3 hb4 htr hdt hlr hbl hmf wes ws hne
      go_wp2_with fail
      go_ret
      exact ⟨rfl, HBL.out⟩
theorem lri_int (x y : Int) (hx : 0 ≤ x ∧ x ≤ 255) (hy : 0 ≤ y ∧ y ≤ 255) (W : World) :
    Calls Try.prog 13 #[.int .u8 x, .int .u8 y] W fun e W' => e = .returned (.bool true) ∧ Below W.heap.size W W' := by
  obtain ⟨N, rfl⟩ := Int.eq_ofNat_of_zero_le hx.1
  obtain ⟨F, rfl⟩ := Int.eq_ofNat_of_zero_le hy.1
  exact lri_calls N F (by omega) (by omega) W
end Go.Proofs.Ytnkbbjeepdjamaa
