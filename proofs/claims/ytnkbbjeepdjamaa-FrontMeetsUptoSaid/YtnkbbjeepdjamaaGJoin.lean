/- graph.Join: one place more behind another one, and the other way round. Conditions: few places. -/
import Derived.Test.YtnkbbjeepdjamaaGApp
namespace Go.Proofs.Ytnkbbjeepdjamaa
open Go.RowKit
/-- A row of a block of rows holds other numbers. -/
theorem Mat.turned {w w' : World} {base q : Nat} {vs : List Value} {f : List (List Nat)} (h : Mat w base q vs f) {i : Nat} {v : Value} {l' : List Nat} (hv : vs[i]? = some v) (ho : Only (fun k => v.ownBlock = some k) w w') (hr : RowAt w' base 3 v (l'.map iv)) :
    Mat w' base q vs (f.set i l') ∧ Only (MatB q vs) w w' := by
  have hi : i < vs.length := (List.getElem?_eq_some_iff.1 hv).1
  have hif : i < f.length := by rw [← h.len]; exact hi
  have hvq : v.ownBlock ≠ some q := (h.row i v _ hv (List.getElem?_eq_getElem hif)).ne_blk h.blk (by decide)
  refine ⟨⟨(ho.block q (lt_blk h.blk) hvq).trans h.blk, by simp [h.len], h.ge, fun j u m hu hm => ?_, h.inj⟩, ho.mono (fun k _ e => (.inr ⟨i, v, hv, e⟩ : MatB q vs k))⟩
  by_cases e : i = j
  · subst e
    rw [List.getElem?_set_self hif] at hm
    rw [hv] at hu
    cases hu; cases hm
    exact hr
  · rw [List.getElem?_set_ne e] at hm
    exact (h.row j u m hu hm).only ho (fun g hg hg2 => e (h.inj i j v u g hv hu hg2 hg))
theorem ivs_mem (l : List Nat) (j : Nat) : ((j : Int) ∈ ivs l) ↔ j ∈ l := by
  unfold ivs
  rw [List.mem_map]
  constructor
  · rintro ⟨x, hx, e⟩
    have : x = j := by have : (x : Int) = (j : Int) := e; omega
    rwa [this] at hx
  · intro h; exact ⟨j, h, rfl⟩
def sortN (l : List Nat) : List Nat := l.mergeSort fun x y => decide (x ≤ y)
/-- What a join leaves. -/
def JoinPost (w : World) (base : Nat) (gv : Value) (b a : List (List Nat)) (S : Nat → Prop) (e : Ending) (w' : World) : Prop :=
  e = .returned (.tuple #[]) ∧ ∃ S', Gr w' base gv b a S' ∧ Only S w w' ∧ ∀ g, S' g → S g ∨ w.heap.size ≤ g
theorem join_final {w w3 W5 W7 w8 : World} {base q p n : Nat} {vs us vs' us' : List Value} {b a b' a' a'' : List (List Nat)} {S : Nat → Prop}
    (m1 : Mat w base q vs b) (m2 : Mat w base p us a) (hl : a.length = b.length) (hd : ∀ g, MatB q vs g → ¬ MatB p us g) (hS : ∀ g, S g ↔ MatB q vs g ∨ MatB p us g) (hn : b.length = n)
    (h3 : Below w.heap.size w w3) (s1 : Mat W5 base q vs' b') (s2 : Only (MatB q vs) w3 W5) (s3 : ∀ g, MatB q vs' g → MatB q vs g ∨ w3.heap.size ≤ g)
    (_t1 : Mat W7 base p us' a') (t2 : Only (MatB p us) W5 W7) (t3 : ∀ g, MatB p us' g → MatB p us g ∨ W5.heap.size ≤ g)
    (r1 : Mat w8 base p us' a'') (r2 : Only (MatB p us') W7 w8) (hb' : b'.length = b.length) (ha : a''.length = a.length) :
    ∃ S', Gr w8 base (.agg #[.slice (some ⟨q, 0, none⟩) n n, .slice (some ⟨p, 0, none⟩) n n]) b' a'' S' ∧ Only S w w8 ∧ ∀ g, S' g → S g ∨ w.heap.size ≤ g := by
  have z3 := h3.size
  have z5 := s2.size
  have z7 := t2.size
  have lq : ∀ g, MatB q vs g → g < w.heap.size := fun g hg => (m1.lt hg).1
  have lp : ∀ g, MatB p us g → g < w.heap.size := fun g hg => (m2.lt hg).1
  have e1 : ∀ g, MatB q vs' g → ¬ MatB p us g := fun g hg hp => by
    rcases s3 g hg with h | h
    · exact hd g h hp
    · have := lp g hp; omega
  have e2 : ∀ g, MatB q vs' g → ¬ MatB p us' g := fun g hg hp => by
    rcases t3 g hp with h | h
    · exact e1 g hg h
    · have := (s1.lt hg).1; omega
  have q8 : Mat w8 base q vs' b' := (s1.only t2 (fun g hg => e1 g hg)).only r2 (fun g hg => e2 g hg)
  refine ⟨fun g => MatB q vs' g ∨ MatB p us' g, ⟨q, p, vs', us', by rw [hb', hn], q8, r1, by omega, e2, fun _ => Iff.rfl⟩, ?_, fun g hg => ?_⟩
  · refine (((Only.of_below h3).mono (fun k hk e => absurd e (by omega))).trans s2 (fun k hk e => (hS k).2 (.inl e))).trans (t2.trans r2 (fun k hk e => ?_)) (fun k hk e => (hS k).2 (.inr e))
    exact (t3 k e).resolve_right (by omega)
  · rw [hS]
    rcases hg with hg | hg
    · rcases s3 g hg with h | h
      · exact .inl (.inl h)
      · exact .inr (by omega)
    · rcases t3 g hg with h | h
      · exact .inl (.inr h)
      · exact .inr (by omega)
set_option maxRecDepth 100000 in
set_option maxHeartbeats 4000000 in
theorem join_new {w : World} {base : Nat} {gv : Value} {b a : List (List Nat)} {S : Nat → Prop} (h : Gr w base gv b a S) (i j : Nat) (lb la : List Nat) (hlb : b[i]? = some lb) (hla : a[j]? = some la) (hnot : j ∉ lb) (hn1 : lb.length ≤ 1048575) (hn2 : la.length ≤ 1048575) :
    Calls Try.prog 27 #[gv, .int .i64 i, .int .i64 j] w (JoinPost w base gv (b.set i (lb ++ [j])) (a.set j (sortN (la ++ [i]))) S) := by
  obtain ⟨q, p, vs, us, rfl, h1, h2, h3, h4, h5⟩ := h.ex
  have hi : i < b.length := (List.getElem?_eq_some_iff.1 hlb).1
  have hj : j < b.length := by have := (List.getElem?_eq_some_iff.1 hla).1; omega
  obtain ⟨v, l', hv, hl', hr⟩ := h1.get (i := i) hi
  obtain rfl : lb = l' := Option.some.inj (hlb.symm.trans hl')
  obtain ⟨u, l'', hu, hl'', hru⟩ := h2.get (i := j) (by omega)
  obtain rfl : la = l'' := Option.some.inj (hla.symm.trans hl'')
  have hbase : base ≤ w.heap.size := by have := h1.lt (.inl rfl : MatB q vs q); omega
  have hqB : q < w.heap.size := (h1.lt (.inl rfl : MatB q vs q)).1
  have hpB : p < w.heap.size := (h2.lt (.inl rfl : MatB p us p)).1
  have hvlt : ∀ g, v.ownBlock = some g → g < w.heap.size := fun g hg => (hr.lt hg).1
  have hult : ∀ g, u.ownBlock = some g → g < w.heap.size := fun g hg => (hru.lt hg).1
  have hvq : v.ownBlock ≠ some q := hr.ne_blk h1.blk (by decide)
  have hup : u.ownBlock ≠ some p := hru.ne_blk h2.blk (by decide)
  have HV := Lib.hid (And.intro hvlt (And.intro hult (And.intro hvq (And.intro hup (And.intro hqB (And.intro hpB hbase))))))
  have H := Lib.hid (And.intro h1 (And.intro h2 (And.intro h3 (And.intro h4 (And.intro h5 (And.intro hv (And.intro hu (And.intro hr (And.intro hru (And.intro hlb (And.intro hla hnot)))))))))))
  have HB : Hid (b.length = b.length) := Lib.hid rfl
  clear h1 h2 h3 h4 h5 h hlb hla hl' hl'' hv hu hr hru hnot hvlt hult hvq hup hbase hqB hpB
  obtain ⟨n, hn⟩ : ∃ n, b.length = n := ⟨_, rfl⟩
  rw [hn] at hi hj ⊢
  have HN := Lib.hid hn
  clear hn
  have i0 : 0 ≤ (i : Int) := by omega
  have i1 : (i : Int) < (n : Int) := by omega
  have j0 : 0 ≤ (j : Int) := by omega
  have j1 : (j : Int) < (n : Int) := by omega
  go_enter Try.func27, Try.ntmps27
  go_wp2_with fail
  refine (len_calls q n p n n n _).mono ?_
  rintro e w2 ⟨rfl, hb⟩
  generalize hX : World.alloc w _ = X at *
  obtain ⟨hx, hbx, hz⟩ := boxed hX rfl
  have HX := Lib.hid (And.intro hx (And.intro hbx hz))
  clear hX hx hbx hz
  have x0 : w2.cell? ⟨w.heap.size, 0, none⟩ = some (.slice (some ⟨q, 0, none⟩) n n) := (cell_of_blk _ _ _ _ _ ((hb.block _ (by have := HX.out.2.2; omega)).trans HX.out.1) 0)
  have x1 : w2.cell? ⟨w.heap.size, 1, none⟩ = some (.slice (some ⟨p, 0, none⟩) n n) := (cell_of_blk _ _ _ _ _ ((hb.block _ (by have := HX.out.2.2; omega)).trans HX.out.1) 1)
  have HB2 := Lib.hid (below_two HX.out.2.1 hb)
  clear hb
  have hs2 : w.heap.size < w2.heap.size := World.block_lt_of_cell? w2 _ x0
  go_wp2_with fail
  refine (len_calls q n p n n n _).mono ?_
  rintro e w3 ⟨rfl, hb⟩
  have x0' := (hb.cell (p := ⟨w.heap.size, 0, none⟩) hs2).trans x0
  have x1' := (hb.cell (p := ⟨w.heap.size, 1, none⟩) hs2).trans x1
  have HB3 := Lib.hid (below_two HB2.out hb)
  have hs3 : w.heap.size < w3.heap.size := World.block_lt_of_cell? w3 _ x0'
  have hm3 := H.out.1.later HB3.out
  have hc := hm3.cell i
  rw [H.out.2.2.2.2.2.1] at hc
  have hfz := hm3.frozen i
  have hr3 : RowAt w3 base 3 v (lb.map iv) := hm3.row i v lb H.out.2.2.2.2.2.1 H.out.2.2.2.2.2.2.2.2.2.1
  have HM3 := Lib.hid (And.intro hm3 hr3)
  clear hb x0 x1 hs2 HB2 HX X w2 hm3 hr3
  go_wp2_with fail
  refine (QI.contains (j : Int) (l := ivs lb) (by rw [ivs_map]; exact HM3.out.2)).mono ?_
  rintro e w4 ⟨rfl, rfl⟩
  have hdec : decide ((j : Int) ∈ ivs lb) = false := decide_eq_false (fun h => H.out.2.2.2.2.2.2.2.2.2.2.2 ((ivs_mem _ _).1 h))
  rw [hdec]
  clear hdec
  go_wp2_with fail
  have hS2 : JS (w3.drewN 1) w.heap.size q i v (.slice (some ⟨q, 0, none⟩) n n) (.slice (some ⟨p, 0, none⟩) n n) (w3.drewN 1) := ⟨x0', x1', hc, hfz, Lib.hid ⟨Only.refl _ _, hs3, Nat.lt_of_lt_of_le HV.out.2.2.2.2.1 HB3.out.size, fun e => Nat.lt_irrefl _ (HV.out.1 _ e), HV.out.2.2.1⟩⟩
  obtain ⟨v', w5, hr, k1, k2, k3⟩ := row_append (w := (w3.drewN 1).alloc (.cells #[.int .i64 (j : Int)] 3)) (base := base) (v := v) (l := lb) (HM3.out.2.only ((Only.drewN (fun _ => False) w3 1).trans (Only.alloc (fun _ => False) _ _) (fun _ _ e => e)) (fun _ _ e => e)) ⟨w3.heap.size, 0, none⟩ j (by
    have := cell_of_blk ((w3.drewN 1).alloc (.cells #[.int .i64 (j : Int)] 3)) w3.heap.size _ _ _ (heap_alloc_new' (w3.drewN 1) _) 0
    exact this) (by have := HV.out.2.2.2.2.2.2; have := HB3.out.size; simp; omega) (by omega)
  obtain ⟨A1, m1, c1, rfl⟩ : ∃ A m c, v' = .slice A m c := (rowAt_slice k1).elim fun A h => h.elim fun c h => ⟨A, _, c, h.1⟩
  have HR := Lib.hid hr
  have HK := Lib.hid (And.intro k1 (And.intro k2 k3))
  have HX0 := Lib.hid (And.intro x0' x1')
  clear hr k1 k2 k3 hc hfz x0' x1'
  refine wp_region_Z (S := (JS (w3.drewN 1) w.heap.size q i v (.slice (some ⟨q, 0, none⟩) n n) (.slice (some ⟨p, 0, none⟩) n n))) (z := 12) (by kernel_rfl) (by exact hS2) (fun hHeld => ?_)
  refine wpAnyZ_take (i := 0) (oi := { dst := some 33, op := Go.Op.fieldAddr 28 (Go.Operand.tmp 3) 0, type := 0, pos := "graph.go:61", after := #[], guard := none }) (v := ?_) rfl (by kernel_rfl) (by kernel_rfl) (by kernel_rfl) (by kernel_rfl) (fun _ _ _ h => h) (Or.inl ⟨by rfl, ?_⟩) (by assumption) ?_
  rotate_left 1
  · intro w hSw; (obtain ⟨d0, d1, d2, d3, _⟩ := hSw); go_simp; try with_reducible rfl
  try simp only [Act.put, List.setIfInBounds_toArray, List.set_cons_zero, List.set_cons_succ]
  refine wpAnyZ_take (i := 1) (oi := { dst := some 34, op := Go.Op.load 26 (Go.Operand.tmp 33), type := 26, pos := "graph.go:61", after := #[{ on := 0, ground := Go.Ground.data }], guard := none }) (v := ?_) rfl (by kernel_rfl) (by kernel_rfl) (by kernel_rfl) (by kernel_rfl) (fun _ _ _ h => h) (Or.inl ⟨by rfl, ?_⟩) (by assumption) ?_
  rotate_left 1
  · intro w hSw; (obtain ⟨d0, d1, d2, d3, _⟩ := hSw); go_simp; try with_reducible rfl
  try simp only [Act.put, List.setIfInBounds_toArray, List.set_cons_zero, List.set_cons_succ]
  refine wpAnyZ_take (i := 2) (oi := { dst := some 35, op := Go.Op.move (Go.Operand.tmp 1), type := 3, pos := "graph.go:61", after := #[], guard := none }) (v := ?_) rfl (by kernel_rfl) (by kernel_rfl) (by kernel_rfl) (by kernel_rfl) (fun _ _ _ h => h) (Or.inl ⟨by rfl, ?_⟩) (by assumption) ?_
  rotate_left 1
  · intro w hSw; (obtain ⟨d0, d1, d2, d3, _⟩ := hSw); go_simp; try with_reducible rfl
  try simp only [Act.put, List.setIfInBounds_toArray, List.set_cons_zero, List.set_cons_succ]
  refine wpAnyZ_take (i := 3) (oi := { dst := some 36, op := Go.Op.fieldAddr 28 (Go.Operand.tmp 3) 0, type := 0, pos := "graph.go:61", after := #[], guard := none }) (v := ?_) rfl (by kernel_rfl) (by kernel_rfl) (by kernel_rfl) (by kernel_rfl) (fun _ _ _ h => h) (Or.inl ⟨by rfl, ?_⟩) (by assumption) ?_
  rotate_left 1
  · intro w hSw; (obtain ⟨d0, d1, d2, d3, _⟩ := hSw); go_simp; try with_reducible rfl
  try simp only [Act.put, List.setIfInBounds_toArray, List.set_cons_zero, List.set_cons_succ]
  refine wpAnyZ_take (i := 4) (oi := { dst := some 37, op := Go.Op.load 26 (Go.Operand.tmp 36), type := 26, pos := "graph.go:61", after := #[{ on := 3, ground := Go.Ground.data }], guard := none }) (v := ?_) rfl (by kernel_rfl) (by kernel_rfl) (by kernel_rfl) (by kernel_rfl) (fun _ _ _ h => h) (Or.inl ⟨by rfl, ?_⟩) (by assumption) ?_
  rotate_left 1
  · intro w hSw; (obtain ⟨d0, d1, d2, d3, _⟩ := hSw); go_simp; try with_reducible rfl
  try simp only [Act.put, List.setIfInBounds_toArray, List.set_cons_zero, List.set_cons_succ]
  refine wpAnyZ_take (i := 5) (oi := { dst := some 38, op := Go.Op.move (Go.Operand.tmp 1), type := 3, pos := "graph.go:61", after := #[], guard := none }) (v := ?_) rfl (by kernel_rfl) (by kernel_rfl) (by kernel_rfl) (by kernel_rfl) (fun _ _ _ h => h) (Or.inl ⟨by rfl, ?_⟩) (by assumption) ?_
  rotate_left 1
  · intro w hSw; (obtain ⟨d0, d1, d2, d3, _⟩ := hSw); go_simp; try with_reducible rfl
  try simp only [Act.put, List.setIfInBounds_toArray, List.set_cons_zero, List.set_cons_succ]
  refine wpAnyZ_take (i := 6) (oi := { dst := some 39, op := Go.Op.indexAddr 26 (Go.Operand.tmp 37) (Go.Operand.tmp 38), type := 0, pos := "graph.go:61", after := #[{ on := 4, ground := Go.Ground.data }, { on := 5, ground := Go.Ground.data }], guard := none }) (v := ?_) rfl (by kernel_rfl) (by kernel_rfl) (by kernel_rfl) (by kernel_rfl) (fun _ _ _ h => h) (Or.inl ⟨by rfl, ?_⟩) (by assumption) ?_
  rotate_left 1
  · intro w hSw; (obtain ⟨d0, d1, d2, d3, _⟩ := hSw); go_simp; try with_reducible rfl
  try simp only [Act.put, List.setIfInBounds_toArray, List.set_cons_zero, List.set_cons_succ]
  refine wpAnyZ_take (i := 7) (oi := { dst := some 40, op := Go.Op.load 31 (Go.Operand.tmp 39), type := 31, pos := "graph.go:61", after := #[{ on := 6, ground := Go.Ground.data }], guard := none }) (v := ?_) rfl (by kernel_rfl) (by kernel_rfl) (by kernel_rfl) (by kernel_rfl) (fun _ _ _ h => h) (Or.inl ⟨by rfl, ?_⟩) (by assumption) ?_
  rotate_left 1
  · intro w hSw; (obtain ⟨d0, d1, d2, d3, _⟩ := hSw); go_simp; try with_reducible rfl
  try simp only [Act.put, List.setIfInBounds_toArray, List.set_cons_zero, List.set_cons_succ]
  refine wpAnyZ_take (i := 8) (oi := { dst := some 41, op := Go.Op.move (Go.Operand.tmp 2), type := 3, pos := "graph.go:61", after := #[], guard := none }) (v := ?_) rfl (by kernel_rfl) (by kernel_rfl) (by kernel_rfl) (by kernel_rfl) (fun _ _ _ h => h) (Or.inl ⟨by rfl, ?_⟩) (by assumption) ?_
  rotate_left 1
  · intro w hSw; (obtain ⟨d0, d1, d2, d3, _⟩ := hSw); go_simp; try with_reducible rfl
  try simp only [Act.put, List.setIfInBounds_toArray, List.set_cons_zero, List.set_cons_succ]
  refine wpAnyZ_step (i := 9) (o := { dst := some 42, op := Go.Op.buildSlice 31 1 #[(0, Go.Operand.tmp 41)], type := 31, pos := "graph.go:61", after := #[{ on := 8, ground := Go.Ground.data }], guard := none }) rfl (by kernel_rfl) (fun K hK => ?_)
  go_simp
  refine hK.out _ _ (fun _ => hHeld.alloc _) (fun hHeld1 => ?_)
  replace hHeld1 := hHeld1 (by decide)
  clear hK K hHeld
  try simp only [Act.put, List.setIfInBounds_toArray, List.set_cons_zero, List.set_cons_succ]
  refine wpAnyZ_step (i := 10) (o := { dst := some 43, op := Go.Op.call { callee := Go.Callee.builtin Go.Builtin.append, args := #[Go.Operand.tmp 40, Go.Operand.tmp 42], argTypes := #[31, 31] }, type := 31, pos := "graph.go:61", after := #[{ on := 7, ground := Go.Ground.data }, { on := 9, ground := Go.Ground.data }], guard := none }) rfl (by kernel_rfl) (fun K hK => ?_)
  refine step_append_run rfl _ _ _ _ rfl _ _ rfl rfl HR.out ?_
  refine hK.out _ _ (fun _ => hHeld1.step HK.out.2.1) (fun hHeld2 => ?_)
  replace hHeld2 := hHeld2 (by decide)
  clear hK K hHeld1
  try simp only [Act.put, List.setIfInBounds_toArray, List.set_cons_zero, List.set_cons_succ]
  refine wpAnyZ_take (i := 11) (oi := { dst := some 44, op := Go.Op.indexAddr 26 (Go.Operand.tmp 34) (Go.Operand.tmp 35), type := 0, pos := "graph.go:61", after := #[{ on := 1, ground := Go.Ground.data }, { on := 2, ground := Go.Ground.data }, { on := 0, ground := Go.Ground.phase }, { on := 1, ground := Go.Ground.phase }, { on := 2, ground := Go.Ground.phase }, { on := 3, ground := Go.Ground.phase }, { on := 4, ground := Go.Ground.phase }, { on := 5, ground := Go.Ground.phase }, { on := 6, ground := Go.Ground.phase }, { on := 7, ground := Go.Ground.phase }, { on := 8, ground := Go.Ground.phase }, { on := 9, ground := Go.Ground.phase }, { on := 10, ground := Go.Ground.phase }], guard := none }) (v := ?_) rfl (by kernel_rfl) (by kernel_rfl) (by kernel_rfl) (by kernel_rfl) (fun _ _ _ h => h) (Or.inl ⟨by rfl, ?_⟩) (by assumption) ?_
  rotate_left 1
  · intro w hSw; (obtain ⟨d0, d1, d2, d3, _⟩ := hSw); go_simp; try with_reducible rfl
  try simp only [Act.put, List.setIfInBounds_toArray, List.set_cons_zero, List.set_cons_succ]
  refine wpAnyZ_step (i := 12) (o := { dst := none, op := Go.Op.store 31 (Go.Operand.tmp 44) (Go.Operand.tmp 43), type := 0, pos := "graph.go:61", after := #[{ on := 11, ground := Go.Ground.data }, { on := 10, ground := Go.Ground.data }, { on := 10, ground := Go.Ground.chain }, { on := 0, ground := Go.Ground.phase }, { on := 1, ground := Go.Ground.phase }, { on := 2, ground := Go.Ground.phase }, { on := 3, ground := Go.Ground.phase }, { on := 4, ground := Go.Ground.phase }, { on := 5, ground := Go.Ground.phase }, { on := 6, ground := Go.Ground.phase }, { on := 7, ground := Go.Ground.phase }, { on := 8, ground := Go.Ground.phase }, { on := 9, ground := Go.Ground.phase }, { on := 10, ground := Go.Ground.phase }], guard := none }) rfl (by kernel_rfl) (fun K hK => ?_)
  have e2 := hHeld2.2.2.1
  have e3 := hHeld2.2.2.2.1
  go_simp
  refine hK.out _ _ (fun h => absurd rfl h) (fun _ => ?_)
  clear hK K e2 e3
  try simp only [Act.put, List.setIfInBounds_toArray, List.set_cons_zero, List.set_cons_succ]
  refine wpAnyZ_done (by kernel_rfl) ?_ _
  have hset := HM3.out.1.set (w1 := w5) H.out.2.2.2.2.2.1 H.out.2.2.2.2.2.2.2.2.2.1 (((Only.drewN _ w3 1).trans (Only.alloc _ _ _) (fun _ _ e => e)).trans HK.out.2.1 (fun _ _ e => e)) HK.out.1 (HK.out.2.2.imp id (fun ⟨g, h1, h2⟩ => ⟨g, h1, by simp at h2; omega⟩))
  have HS := Lib.hid hset
  have hB := hHeld2
  clear hset hHeld2 HR HK hS2
  generalize World.setCell w5 _ _ = W5 at *
  clear w5 hB
  have hs5 := HS.out.2.1.size
  have hBq : ¬ MatB q vs w.heap.size := fun e => Nat.lt_irrefl _ (H.out.1.lt e).1
  have hmp : Mat W5 base p us a := (H.out.2.1.later HB3.out).only HS.out.2.1 (fun g hg e => H.out.2.2.2.1 g e hg)
  have y0 : W5.cell? ⟨w.heap.size, 0, none⟩ = some (.slice (some ⟨q, 0, none⟩) n n) := (HS.out.2.1.cell (p := ⟨w.heap.size, 0, none⟩) hs3 hBq).trans HX0.out.1
  have y1 : W5.cell? ⟨w.heap.size, 1, none⟩ = some (.slice (some ⟨p, 0, none⟩) n n) := (HS.out.2.1.cell (p := ⟨w.heap.size, 1, none⟩) hs3 hBq).trans HX0.out.2
  have hc := hmp.cell j
  rw [H.out.2.2.2.2.2.2.1] at hc
  have hfz := hmp.frozen j
  have hr5 : RowAt W5 base 3 u (la.map iv) := hmp.row j u la H.out.2.2.2.2.2.2.1 H.out.2.2.2.2.2.2.2.2.2.2.1
  have HM5 := Lib.hid (And.intro hmp hr5)
  clear hmp hr5 hBq
  go_wp2_with fail
  have hS4 : JS (W5.drewN 1) w.heap.size p j u (.slice (some ⟨q, 0, none⟩) n n) (.slice (some ⟨p, 0, none⟩) n n) (W5.drewN 1) := ⟨y0, y1, hc, hfz, Lib.hid ⟨Only.refl _ _, Nat.lt_of_lt_of_le hs3 hs5, Nat.lt_of_lt_of_le HV.out.2.2.2.2.2.1 (Nat.le_trans HB3.out.size hs5), fun e => Nat.lt_irrefl _ (HV.out.2.1 _ e), HV.out.2.2.2.1⟩⟩
  obtain ⟨u', w7, hr, k1, k2, k3⟩ := row_append (w := (W5.drewN 1).alloc (.cells #[.int .i64 (i : Int)] 3)) (base := base) (v := u) (l := la) (HM5.out.2.only ((Only.drewN (fun _ => False) W5 1).trans (Only.alloc (fun _ => False) _ _) (fun _ _ e => e)) (fun _ _ e => e)) ⟨W5.heap.size, 0, none⟩ i (by
    have := cell_of_blk ((W5.drewN 1).alloc (.cells #[.int .i64 (i : Int)] 3)) W5.heap.size _ _ _ (heap_alloc_new' (W5.drewN 1) _) 0
    exact this) (by have := HV.out.2.2.2.2.2.2; have := HB3.out.size; simp; omega) (by omega)
  obtain ⟨A2, m2, c2, rfl⟩ : ∃ A m c, u' = .slice A m c := (rowAt_slice k1).elim fun A h => h.elim fun c h => ⟨A, _, c, h.1⟩
  have HR4 := Lib.hid hr
  have HK4 := Lib.hid (And.intro k1 (And.intro k2 k3))
  clear hr k1 k2 k3 hc hfz
  refine wp_region_Z (S := (JS (W5.drewN 1) w.heap.size p j u (.slice (some ⟨q, 0, none⟩) n n) (.slice (some ⟨p, 0, none⟩) n n))) (z := 12) (by kernel_rfl) (by exact hS4) (fun hHeld => ?_)
  refine wpAnyZ_take (i := 0) (oi := { dst := some 45, op := Go.Op.fieldAddr 28 (Go.Operand.tmp 3) 1, type := 0, pos := "graph.go:62", after := #[], guard := none }) (v := ?_) rfl (by kernel_rfl) (by kernel_rfl) (by kernel_rfl) (by kernel_rfl) (fun _ _ _ h => h) (Or.inl ⟨by rfl, ?_⟩) (by assumption) ?_
  rotate_left 1
  · intro w hSw; (obtain ⟨d0, d1, d2, d3, _⟩ := hSw); go_simp; try with_reducible rfl
  try simp only [Act.put, List.setIfInBounds_toArray, List.set_cons_zero, List.set_cons_succ]
  refine wpAnyZ_take (i := 1) (oi := { dst := some 46, op := Go.Op.load 26 (Go.Operand.tmp 45), type := 26, pos := "graph.go:62", after := #[{ on := 0, ground := Go.Ground.data }], guard := none }) (v := ?_) rfl (by kernel_rfl) (by kernel_rfl) (by kernel_rfl) (by kernel_rfl) (fun _ _ _ h => h) (Or.inl ⟨by rfl, ?_⟩) (by assumption) ?_
  rotate_left 1
  · intro w hSw; (obtain ⟨d0, d1, d2, d3, _⟩ := hSw); go_simp; try with_reducible rfl
  try simp only [Act.put, List.setIfInBounds_toArray, List.set_cons_zero, List.set_cons_succ]
  refine wpAnyZ_take (i := 2) (oi := { dst := some 47, op := Go.Op.move (Go.Operand.tmp 2), type := 3, pos := "graph.go:62", after := #[], guard := none }) (v := ?_) rfl (by kernel_rfl) (by kernel_rfl) (by kernel_rfl) (by kernel_rfl) (fun _ _ _ h => h) (Or.inl ⟨by rfl, ?_⟩) (by assumption) ?_
  rotate_left 1
  · intro w hSw; (obtain ⟨d0, d1, d2, d3, _⟩ := hSw); go_simp; try with_reducible rfl
  try simp only [Act.put, List.setIfInBounds_toArray, List.set_cons_zero, List.set_cons_succ]
  refine wpAnyZ_take (i := 3) (oi := { dst := some 48, op := Go.Op.fieldAddr 28 (Go.Operand.tmp 3) 1, type := 0, pos := "graph.go:62", after := #[], guard := none }) (v := ?_) rfl (by kernel_rfl) (by kernel_rfl) (by kernel_rfl) (by kernel_rfl) (fun _ _ _ h => h) (Or.inl ⟨by rfl, ?_⟩) (by assumption) ?_
  rotate_left 1
  · intro w hSw; (obtain ⟨d0, d1, d2, d3, _⟩ := hSw); go_simp; try with_reducible rfl
  try simp only [Act.put, List.setIfInBounds_toArray, List.set_cons_zero, List.set_cons_succ]
  refine wpAnyZ_take (i := 4) (oi := { dst := some 49, op := Go.Op.load 26 (Go.Operand.tmp 48), type := 26, pos := "graph.go:62", after := #[{ on := 3, ground := Go.Ground.data }], guard := none }) (v := ?_) rfl (by kernel_rfl) (by kernel_rfl) (by kernel_rfl) (by kernel_rfl) (fun _ _ _ h => h) (Or.inl ⟨by rfl, ?_⟩) (by assumption) ?_
  rotate_left 1
  · intro w hSw; (obtain ⟨d0, d1, d2, d3, _⟩ := hSw); go_simp; try with_reducible rfl
  try simp only [Act.put, List.setIfInBounds_toArray, List.set_cons_zero, List.set_cons_succ]
  refine wpAnyZ_take (i := 5) (oi := { dst := some 50, op := Go.Op.move (Go.Operand.tmp 2), type := 3, pos := "graph.go:62", after := #[], guard := none }) (v := ?_) rfl (by kernel_rfl) (by kernel_rfl) (by kernel_rfl) (by kernel_rfl) (fun _ _ _ h => h) (Or.inl ⟨by rfl, ?_⟩) (by assumption) ?_
  rotate_left 1
  · intro w hSw; (obtain ⟨d0, d1, d2, d3, _⟩ := hSw); go_simp; try with_reducible rfl
  try simp only [Act.put, List.setIfInBounds_toArray, List.set_cons_zero, List.set_cons_succ]
  refine wpAnyZ_take (i := 6) (oi := { dst := some 51, op := Go.Op.indexAddr 26 (Go.Operand.tmp 49) (Go.Operand.tmp 50), type := 0, pos := "graph.go:62", after := #[{ on := 4, ground := Go.Ground.data }, { on := 5, ground := Go.Ground.data }], guard := none }) (v := ?_) rfl (by kernel_rfl) (by kernel_rfl) (by kernel_rfl) (by kernel_rfl) (fun _ _ _ h => h) (Or.inl ⟨by rfl, ?_⟩) (by assumption) ?_
  rotate_left 1
  · intro w hSw; (obtain ⟨d0, d1, d2, d3, _⟩ := hSw); go_simp; try with_reducible rfl
  try simp only [Act.put, List.setIfInBounds_toArray, List.set_cons_zero, List.set_cons_succ]
  refine wpAnyZ_take (i := 7) (oi := { dst := some 52, op := Go.Op.load 31 (Go.Operand.tmp 51), type := 31, pos := "graph.go:62", after := #[{ on := 6, ground := Go.Ground.data }], guard := none }) (v := ?_) rfl (by kernel_rfl) (by kernel_rfl) (by kernel_rfl) (by kernel_rfl) (fun _ _ _ h => h) (Or.inl ⟨by rfl, ?_⟩) (by assumption) ?_
  rotate_left 1
  · intro w hSw; (obtain ⟨d0, d1, d2, d3, _⟩ := hSw); go_simp; try with_reducible rfl
  try simp only [Act.put, List.setIfInBounds_toArray, List.set_cons_zero, List.set_cons_succ]
  refine wpAnyZ_take (i := 8) (oi := { dst := some 53, op := Go.Op.move (Go.Operand.tmp 1), type := 3, pos := "graph.go:62", after := #[], guard := none }) (v := ?_) rfl (by kernel_rfl) (by kernel_rfl) (by kernel_rfl) (by kernel_rfl) (fun _ _ _ h => h) (Or.inl ⟨by rfl, ?_⟩) (by assumption) ?_
  rotate_left 1
  · intro w hSw; (obtain ⟨d0, d1, d2, d3, _⟩ := hSw); go_simp; try with_reducible rfl
  try simp only [Act.put, List.setIfInBounds_toArray, List.set_cons_zero, List.set_cons_succ]
  refine wpAnyZ_step (i := 9) (o := { dst := some 54, op := Go.Op.buildSlice 31 1 #[(0, Go.Operand.tmp 53)], type := 31, pos := "graph.go:62", after := #[{ on := 8, ground := Go.Ground.data }], guard := none }) rfl (by kernel_rfl) (fun K hK => ?_)
  go_simp
  refine hK.out _ _ (fun _ => hHeld.alloc _) (fun hHeld1 => ?_)
  replace hHeld1 := hHeld1 (by decide)
  clear hK K hHeld
  try simp only [Act.put, List.setIfInBounds_toArray, List.set_cons_zero, List.set_cons_succ]
  refine wpAnyZ_step (i := 10) (o := { dst := some 55, op := Go.Op.call { callee := Go.Callee.builtin Go.Builtin.append, args := #[Go.Operand.tmp 52, Go.Operand.tmp 54], argTypes := #[31, 31] }, type := 31, pos := "graph.go:62", after := #[{ on := 7, ground := Go.Ground.data }, { on := 9, ground := Go.Ground.data }], guard := none }) rfl (by kernel_rfl) (fun K hK => ?_)
  refine step_append_run rfl _ _ _ _ rfl _ _ rfl rfl HR4.out ?_
  refine hK.out _ _ (fun _ => hHeld1.step HK4.out.2.1) (fun hHeld2 => ?_)
  replace hHeld2 := hHeld2 (by decide)
  clear hK K hHeld1
  try simp only [Act.put, List.setIfInBounds_toArray, List.set_cons_zero, List.set_cons_succ]
  refine wpAnyZ_take (i := 11) (oi := { dst := some 56, op := Go.Op.indexAddr 26 (Go.Operand.tmp 46) (Go.Operand.tmp 47), type := 0, pos := "graph.go:62", after := #[{ on := 1, ground := Go.Ground.data }, { on := 2, ground := Go.Ground.data }, { on := 0, ground := Go.Ground.phase }, { on := 1, ground := Go.Ground.phase }, { on := 2, ground := Go.Ground.phase }, { on := 3, ground := Go.Ground.phase }, { on := 4, ground := Go.Ground.phase }, { on := 5, ground := Go.Ground.phase }, { on := 6, ground := Go.Ground.phase }, { on := 7, ground := Go.Ground.phase }, { on := 8, ground := Go.Ground.phase }, { on := 9, ground := Go.Ground.phase }, { on := 10, ground := Go.Ground.phase }], guard := none }) (v := ?_) rfl (by kernel_rfl) (by kernel_rfl) (by kernel_rfl) (by kernel_rfl) (fun _ _ _ h => h) (Or.inl ⟨by rfl, ?_⟩) (by assumption) ?_
  rotate_left 1
  · intro w hSw; (obtain ⟨d0, d1, d2, d3, _⟩ := hSw); go_simp; try with_reducible rfl
  try simp only [Act.put, List.setIfInBounds_toArray, List.set_cons_zero, List.set_cons_succ]
  refine wpAnyZ_step (i := 12) (o := { dst := none, op := Go.Op.store 31 (Go.Operand.tmp 56) (Go.Operand.tmp 55), type := 0, pos := "graph.go:62", after := #[{ on := 11, ground := Go.Ground.data }, { on := 10, ground := Go.Ground.data }, { on := 10, ground := Go.Ground.chain }, { on := 0, ground := Go.Ground.phase }, { on := 1, ground := Go.Ground.phase }, { on := 2, ground := Go.Ground.phase }, { on := 3, ground := Go.Ground.phase }, { on := 4, ground := Go.Ground.phase }, { on := 5, ground := Go.Ground.phase }, { on := 6, ground := Go.Ground.phase }, { on := 7, ground := Go.Ground.phase }, { on := 8, ground := Go.Ground.phase }, { on := 9, ground := Go.Ground.phase }, { on := 10, ground := Go.Ground.phase }], guard := none }) rfl (by kernel_rfl) (fun K hK => ?_)
  have e2 := hHeld2.2.2.1
  have e3 := hHeld2.2.2.2.1
  go_simp
  refine hK.out _ _ (fun h => absurd rfl h) (fun _ => ?_)
  clear hK K e2 e3
  try simp only [Act.put, List.setIfInBounds_toArray, List.set_cons_zero, List.set_cons_succ]
  refine wpAnyZ_done (by kernel_rfl) ?_ _
  have hset := HM5.out.1.set (w1 := w7) H.out.2.2.2.2.2.2.1 H.out.2.2.2.2.2.2.2.2.2.2.1 (((Only.drewN _ W5 1).trans (Only.alloc _ _ _) (fun _ _ e => e)).trans HK4.out.2.1 (fun _ _ e => e)) HK4.out.1 (HK4.out.2.2.imp id (fun ⟨g, h1, h2⟩ => ⟨g, h1, by simp at h2; omega⟩))
  have HS4 := Lib.hid hset
  clear hset hHeld2 HR4 HK4 hS4
  generalize World.setCell w7 _ _ = W7 at *
  clear w7
  have hs7 := HS4.out.2.1.size
  have hjp : j < us.length := by rw [H.out.2.1.len]; exact (List.getElem?_eq_some_iff.1 H.out.2.2.2.2.2.2.2.2.2.2.1).1
  have hBp : ¬ MatB p us w.heap.size := fun e => Nat.lt_irrefl _ (H.out.2.1.lt e).1
  replace y0 := (HS4.out.2.1.cell (p := ⟨w.heap.size, 0, none⟩) (Nat.lt_of_lt_of_le hs3 hs5) hBp).trans y0
  replace y1 := (HS4.out.2.1.cell (p := ⟨w.heap.size, 1, none⟩) (Nat.lt_of_lt_of_le hs3 hs5) hBp).trans y1
  have hu' : (us.set j (.slice A2 m2 c2))[j]? = some (.slice A2 m2 c2) := List.getElem?_set_self hjp
  have hc := HS4.out.1.cell j
  rw [hu'] at hc
  have hr7 : RowAt W7 base 3 (.slice A2 m2 c2) ((la ++ [i]).map iv) := HS4.out.1.row j (.slice A2 m2 c2) (la ++ [i]) hu' (List.getElem?_set_self (by rw [← H.out.2.1.len]; exact hjp))
  have HR7 := Lib.hid (And.intro hr7 hu')
  clear hr7 hu' hjp hBp
  go_wp2_with fail
  refine (sortG HR7.out.1 (by simp; omega)).mono ?_
  rintro e w8 ⟨rfl, hr8, ho8⟩
  have ht := HS4.out.1.turned HR7.out.2 ho8 hr8
  have HT := Lib.hid ht
  clear ht hr8 ho8 y0 y1 hc
  go_wp2_with fail
  go_end0
  refine ⟨rfl, ?_⟩
  exact join_final H.out.1 H.out.2.1 H.out.2.2.1 H.out.2.2.2.1 H.out.2.2.2.2.1 HN.out HB3.out HS.out.1 HS.out.2.1 HS.out.2.2 HS4.out.1 HS4.out.2.1 HS4.out.2.2 (by rw [List.set_set] at HT; exact HT.out.1) HT.out.2 (by simp) (by simp)
set_option maxRecDepth 100000 in
set_option maxHeartbeats 4000000 in
theorem join_old {w : World} {base : Nat} {gv : Value} {b a : List (List Nat)} {S : Nat → Prop} (h : Gr w base gv b a S) (i j : Nat) (lb : List Nat) (hlb : b[i]? = some lb) (hj : j < b.length) (hin : j ∈ lb) :
    Calls Try.prog 27 #[gv, .int .i64 i, .int .i64 j] w fun e w' => e = .returned (.tuple #[]) ∧ Below w.heap.size w w' := by
  obtain ⟨q, p, vs, us, rfl, h1, h2, h3, h4, h5⟩ := h.ex
  have hi : i < b.length := (List.getElem?_eq_some_iff.1 hlb).1
  obtain ⟨v, l', hv, hl', hr⟩ := h1.get (i := i) hi
  obtain rfl : lb = l' := Option.some.inj (hlb.symm.trans hl')
  have H := Lib.hid (And.intro h1 (And.intro hv (And.intro hr hin)))
  have HLB := Lib.hid hlb
  clear h1 h2 h3 h4 h5 h hlb hl' hv hr hin
  generalize b.length = n at *
  have i0 : 0 ≤ (i : Int) := by omega
  have i1 : (i : Int) < (n : Int) := by omega
  have j0 : 0 ≤ (j : Int) := by omega
  have j1 : (j : Int) < (n : Int) := by omega
  go_enter Try.func27, Try.ntmps27
  go_wp2_with fail
  refine (len_calls q n p n n n _).mono ?_
  rintro e w2 ⟨rfl, hb⟩
  generalize hX : World.alloc w _ = X at *
  obtain ⟨hx, hbx, hz⟩ := boxed hX rfl
  have x0 : w2.cell? ⟨w.heap.size, 0, none⟩ = some (.slice (some ⟨q, 0, none⟩) n n) := (cell_of_blk _ _ _ _ _ ((hb.block _ (by omega)).trans hx) 0)
  have x1 : w2.cell? ⟨w.heap.size, 1, none⟩ = some (.slice (some ⟨p, 0, none⟩) n n) := (cell_of_blk _ _ _ _ _ ((hb.block _ (by omega)).trans hx) 1)
  have HB2 := Lib.hid (below_two hbx hb)
  clear hb hX hx hbx hz
  have hs2 : w.heap.size < w2.heap.size := World.block_lt_of_cell? w2 _ x0
  go_wp2_with fail
  refine (len_calls q n p n n n _).mono ?_
  rintro e w3 ⟨rfl, hb⟩
  have x0' := (hb.cell (p := ⟨w.heap.size, 0, none⟩) hs2).trans x0
  have HB3 := Lib.hid (below_two HB2.out hb)
  have hm3 := H.out.1.later HB3.out
  have hc := hm3.cell i
  rw [H.out.2.1] at hc
  have HM3 := Lib.hid (hm3.row i v lb H.out.2.1 HLB.out)
  clear hb x0 x1 hs2 HB2 X w2 hm3
  go_wp2_with fail
  refine (QI.contains (j : Int) (l := ivs lb) (by rw [ivs_map]; exact HM3.out)).mono ?_
  rintro e w4 ⟨rfl, rfl⟩
  have hdec : decide ((j : Int) ∈ ivs lb) = true := decide_eq_true ((ivs_mem _ _).2 H.out.2.2.2)
  rw [hdec]
  have hbel := HB3.out
  clear hdec
  go_wp2_with fail
  exact bodyPost_ret (v := .tuple #[]) (by simp [results, Try.results27, go_sem]) rfl ⟨rfl, hbel⟩
set_option maxRecDepth 100000 in
set_option maxHeartbeats 4000000 in
theorem join_out {w : World} {base : Nat} {gv : Value} {b a : List (List Nat)} {S : Nat → Prop} (h : Gr w base gv b a S) (i j : Int) (ho : ¬ (0 ≤ i ∧ i < b.length ∧ 0 ≤ j ∧ j < b.length)) :
    Calls Try.prog 27 #[gv, .int .i64 i, .int .i64 j] w fun e w' => e = .returned (.tuple #[]) ∧ Below w.heap.size w w' := by
  obtain ⟨q, p, vs, us, rfl, _⟩ := h.ex
  clear h
  generalize b.length = n at *
  by_cases hi : i < 0
  · clear ho
    go_enter Try.func27, Try.ntmps27
    go_wp2_with fail
    exact bodyPost_ret (v := .tuple #[]) (by simp [results, Try.results27, go_sem]) rfl ⟨rfl, (Below.refl _ _).alloc (Nat.le_refl _) _⟩
  · have i0 : 0 ≤ i := by omega
    by_cases hj : j < 0
    · clear ho hi
      go_enter Try.func27, Try.ntmps27
      go_wp2_with fail
      exact bodyPost_ret (v := .tuple #[]) (by simp [results, Try.results27, go_sem]) rfl ⟨rfl, (Below.refl _ _).alloc (Nat.le_refl _) _⟩
    · have j0 : 0 ≤ j := by omega
      by_cases hi2 : (n : Int) ≤ i
      · clear ho hi hj
        go_enter Try.func27, Try.ntmps27
        go_wp2_with fail
        refine (len_calls q n p n n n _).mono ?_
        rintro e w2 ⟨rfl, hb⟩
        have hbel := below_two ((Below.refl _ _).alloc (Nat.le_refl _) _) hb
        clear hb
        go_wp2_with fail
        exact bodyPost_ret (v := .tuple #[]) (by simp [results, Try.results27, go_sem]) rfl ⟨rfl, hbel⟩
      · have i1 : i < (n : Int) := by omega
        have j1 : (n : Int) ≤ j := by omega
        clear ho hi hj hi2
        go_enter Try.func27, Try.ntmps27
        go_wp2_with fail
        refine (len_calls q n p n n n _).mono ?_
        rintro e w2 ⟨rfl, hb⟩
        generalize hX : World.alloc w _ = X at *
        obtain ⟨hx, hbx, hz⟩ := boxed hX rfl
        have x0 : w2.cell? ⟨w.heap.size, 0, none⟩ = some (.slice (some ⟨q, 0, none⟩) n n) := (cell_of_blk _ _ _ _ _ ((hb.block _ (by omega)).trans hx) 0)
        have x1 : w2.cell? ⟨w.heap.size, 1, none⟩ = some (.slice (some ⟨p, 0, none⟩) n n) := (cell_of_blk _ _ _ _ _ ((hb.block _ (by omega)).trans hx) 1)
        have HB2 := Lib.hid (below_two hbx hb)
        clear hb hX hx hbx hz
        go_wp2_with fail
        refine (len_calls q n p n n n _).mono ?_
        rintro e w3 ⟨rfl, hb⟩
        have hbel := below_two HB2.out hb
        clear hb x0 x1
        go_wp2_with fail
        exact bodyPost_ret (v := .tuple #[]) (by simp [results, Try.results27, go_sem]) rfl ⟨rfl, hbel⟩
end Go.Proofs.Ytnkbbjeepdjamaa
