/- What slices.Insert[[]int] does to a row of the call's own, one item put in: in place, or in a new row. After the shelf's two roads at []int. Conditions: the row is the call's own; the item lies in another block. -/
import Derived.Test.YteojcdpmlhlfaaaBsI
import Derived.Test.YteojcdpmlhlfaaaMem
import Derived.Lib.Walk
import Derived.Lib.SliceRun
import Derived.Lib.JoinLaws
import Derived.Lib.AppendZerosOnto
import Derived.Lib.Overlaps
import Derived.Laws.Externs
import Derived.Laws.IdiomCopy
import Derived.Deep.RegionLaw
import Derived.Maps.AppendAt
set_option linter.unusedVariables false
namespace Go.Proofs.Yteojcdpmlhlfaaa
open Go.RowKit Go.Lib
section
variable {P : Program}
theorem wp_copy_runI (w : World) {o : Oper} {a : Act} {K : Act → World → Prop} {Q : Exit → Act → World → Prop} (d s : Operand) (t t' : TypeId)
    (ho : o.op = .call { callee := .builtin .copy, args := #[d, s], argTypes := #[t, t'] }) (v u : Value) (hd : a.eval d = v) (hs : a.eval s = u) {v' : Value} {w' : World}
    (hr : (Builtin.copy_ #[t, t'] o.type #[v, u]).run P w = .ok v' w') (h : K (a.put o.dst v') w') : o.wp P a w K Q := by
  unfold Oper.wp execOp
  simp only [ho, resolve, invoke, builtin, Sem.run_bind, Sem.run_pure, Result.andThen_ok, List.map_toArray, List.map_cons, List.map_nil, hd, hs, hr]
  exact h

theorem wpList_copy_runI (w : World) {ops : Array Oper} {rest : List Oper} {o : Oper} {a : Act} {Q : Exit → Act → World → Prop} (hgd : o.guard = none) (d s : Operand) (t t' : TypeId)
    (ho : o.op = .call { callee := .builtin .copy, args := #[d, s], argTypes := #[t, t'] }) (v u : Value) (hd : a.eval d = v) (hs : a.eval s = u) {v' : Value} {w' : World}
    (hr : (Builtin.copy_ #[t, t'] o.type #[v, u]).run P w = .ok v' w') (h : wpList P ops Q rest (a.put o.dst v') w') : wpList P ops Q (o :: rest) a w :=
  wpList_plain hgd fun _ hK => wp_copy_runI w d s t t' ho v u hd hs hr (hK _ _ h)

theorem step_copy_runI {ops : Array Oper} {o : Oper} {a : Act} {w : World} {K : Act → World → Prop} {Q : Exit → Act → World → Prop} {E : Prop}
    (hg : o.guard = none) (d x : Operand) (dT sT : TypeId) (hop : o.op = Op.call { callee := Callee.builtin Builtin.copy, args := #[d, x], argTypes := #[dT, sT] })
    (v u : Value) (hd : a.eval d = v) (hx : a.eval x = u) {v' : Value} {w' : World} (hr : (Builtin.copy_ #[dT, sT] o.type #[v, u]).run P w = .ok v' w') (hK : K (a.put o.dst v') w') :
    if Region.wanted o (yielded ops a.tmps) = true then Oper.wp P o a w K Q else E := by
  have hw : Region.wanted o (yielded ops a.tmps) = true := by simp [Region.wanted, hg]
  rw [if_pos hw]
  unfold Oper.wp
  simp [execOp, hop, resolve, invoke, builtin, hd, hx, hr, Result.andThen]
  exact hK

theorem drew_setCellsI (b : Nat) : ∀ (vs : List Value) (o : Nat) (w : World), (w.setCells b o vs).drew = w.drew.setCells b o vs
  | [], _, _ => rfl
  | v :: r, o, w => by rw [World.setCells, World.setCells, drew_setCellsI b r]; rfl

theorem isSome_setCellsI (b : Nat) (vs : List Value) (o : Nat) (w : World) (h : ∀ j, j < vs.length → (w.cell? ⟨b, o + j, none⟩).isSome = true) (k : Nat) (hk : (w.cell? ⟨b, k, none⟩).isSome = true) : ((w.setCells b o vs).cell? ⟨b, k, none⟩).isSome = true := by
  by_cases hin : o ≤ k ∧ k < o + vs.length
  · have := World.cell?_setCells_in b vs o w h (k - o) (by omega)
    rw [show o + (k - o) = k by omega] at this
    rw [this]; rfl
  · rw [World.cell?_setCells_out b vs o w ⟨b, k, none⟩ (fun _ _ => by show k < o ∨ o + vs.length ≤ k; omega)]
    exact hk

end
theorem infoI : (Try.prog.info? 3).map (fun i => (i.zero, i.size, i.bytes)) = some (some (.int .i64 0), 1, 8) := by kernel_rfl
theorem sizeOfI : ∀ w, (Go.sizeOf 3).run Try.prog w = .ok 1 w := fun w => by kernel_rfl
set_option maxHeartbeats 4000000 in
set_option maxRecDepth 100000 in
theorem insertI_shift (b off n c i vb voff m vc : Nat) (cs vs : List Value) (w : World) (hi : i < n) (hm : 0 < m) (hroom : n + m ≤ c) (hc63 : c ≤ 9223372036854775807) (hvb : vb ≠ b)
    (hcl : cs.length = n) (hvl : vs.length = m)
    (hcs : ∀ j v, cs[j]? = some v → w.cell? ⟨b, off + j, none⟩ = some v) (hsp : ∀ j, j < n + m → (w.cell? ⟨b, off + j, none⟩).isSome = true) (hfz : ∀ j, j < n + m → w.frozen? ⟨b, off + j, none⟩ = false)
    (hvs : ∀ j v, vs[j]? = some v → w.cell? ⟨vb, voff + j, none⟩ = some v) (h1c : ∀ v ∈ cs, v.oneCell' = true) (h1v : ∀ v ∈ vs, v.oneCell' = true)
    (tA tB : TypeId) (kA kB : Nat) (hsa : w.shape? vb = some (tA, kA)) (hsb : w.shape? b = some (tB, kB)) (hkB : kB ≠ 0) (hfa : w.frozen? ⟨vb, voff, none⟩ = false) (hfe : w.frozen? ⟨vb, kA, none⟩ = false) :
    Calls Try.prog 66 #[.slice (some ⟨b, off, none⟩) n c, .int .i64 i, .slice (some ⟨vb, voff, none⟩) m vc] w fun e w' =>
      e = .returned (.slice (some ⟨b, off, none⟩) (n + m) c) ∧ w' = (w.drew.setCells b (off + (i + m)) (cs.drop i)).setCells b (off + i) vs := by
  have hz1 : ¬ ((m : Int) = 0) := by omega
  have hz2 : ¬ ((i : Int) = (n : Int)) := by omega
  have hsz : (Try.prog.info? 3).map (·.size) = some 1 := by
    obtain ⟨i0, hi0, h0, h1, h2⟩ := info_parts infoI
    rw [hi0]; simp [h1]
  have hov : ∀ lb cb, (callFunc 85 #[.slice (some ⟨vb, voff, none⟩) m vc, .slice (some ⟨b, off + (i + m), none⟩) lb cb]).run Try.prog w = .ok (.value (.bool false)) w := fun lb cb => by
    rw [run_callFunc_extern Try.func85 (by kernel_rfl) (by kernel_rfl) (by kernel_rfl) (e := Extern.SlicesOverlaps.overlaps #[64, 64] #[4]) (by kernel_rfl),
      Lib.run_overlaps_apart w 64 4 3 Try.underlying64 1 sizeOfI ⟨vb, voff, none⟩ ⟨b, off + (i + m), none⟩ m vc lb cb hvb tA tB kA kB hsa hsb hkB hfa hfe]
    rfl
  have hdl : (cs.drop i).length = n - i := by rw [List.length_drop, hcl]
  have hw1 : IntKind.i64.wrap ((i : Int) + (m : Int)) = (i : Int) + (m : Int) := by rw [IntKind.wrap_i64]; omega
  have hb1 : (0 : Int) ≤ (i : Int) + (m : Int) := by omega
  have hin : i ≤ n := by omega
  have htn : ((i : Int) + (m : Int)).toNat = i + m := by omega
  have hb2 : ¬ (c = i + m) := by omega
  have hb3 : (i : Int) ≤ (n : Int) + (m : Int) := by omega
  have hb4 : ¬ (c = i) := by omega
  have hcp1 : ∀ ty dc sc, (Builtin.copy_ #[64, 64] ty #[.slice (some ⟨b, off + (i + m), none⟩) (n + m - (i + m)) dc, .slice (some ⟨b, off + i, none⟩) (n + m - i) sc]).run Try.prog w.drew = .ok (goInt (cs.drop i).length) (w.drew.setCells b (off + (i + m)) (cs.drop i)) := fun ty dc sc =>
    run_copy_cells w.drew _ _ ty 3 b (off + (i + m)) (n + m - (i + m)) dc ⟨b, off + i, none⟩ (n + m - i) sc (cs.drop i) Try.underlying64 hsz (by rw [hdl]; simp only [Nat.min_def]; split <;> omega)
      (fun j v hj => by rw [Addr.add_lit, Nat.add_assoc]; exact hcs (i + j) v (by rwa [List.getElem?_drop] at hj))
      (fun j hj => by rw [Nat.add_assoc]; exact hsp _ (by omega)) (fun j hj => by rw [Nat.add_assoc]; exact hfz _ (by omega)) (fun v hv => h1c v (List.mem_of_mem_drop hv))
  obtain ⟨W1, hW1⟩ : ∃ W1, W1 = w.drew.setCells b (off + (i + m)) (cs.drop i) := ⟨_, rfl⟩
  have hsp1 : ∀ k, k < n + m → (W1.cell? ⟨b, off + k, none⟩).isSome = true := fun k hk => by
    rw [hW1]
    exact isSome_setCellsI b _ _ _ (fun j hj => by rw [Nat.add_assoc]; exact hsp _ (by omega)) _ (hsp k hk)
  have hcp2 : ∀ (W : World), (∀ x, W.cell? x = W1.cell? x) → (∀ x, W.frozen? x = W1.frozen? x) → ∀ ty dc, (Builtin.copy_ #[64, 64] ty #[.slice (some ⟨b, off + i, none⟩) (n + m - i) dc, .slice (some ⟨vb, voff, none⟩) m vc]).run Try.prog W = .ok (goInt vs.length) (W.setCells b (off + i) vs) := fun W hWc hWf ty dc =>
    run_copy_cells W _ _ ty 3 b (off + i) (n + m - i) dc ⟨vb, voff, none⟩ m vc vs Try.underlying64 hsz (by rw [hvl]; simp only [Nat.min_def]; split <;> omega)
      (fun j v hj => by
        rw [Addr.add_lit, hWc, hW1, World.cell?_setCells_out b _ _ _ _ (fun h _ => absurd h hvb)]
        exact hvs j v hj)
      (fun j hj => by rw [hWc, Nat.add_assoc]; exact hsp1 _ (by omega)) (fun j hj => by rw [hWf, hW1, World.frozen?_setCells, Nat.add_assoc]; exact hfz _ (by omega)) h1v
  rw [← hW1] at hcp1
  go_enter Try.func66, Try.ntmps66
  go_wp2_with (simp only [hov])
  go_region_law (refine step_copy_runI rfl _ _ 64 64 rfl _ _ (by simp [Act.eval, Act.put]) (by simp [Act.eval, Act.put]) (hcp1 _ _ _) ?_)
  go_wp2_with (at_builtin; refine wpList_copy_runI _ rfl _ _ 64 64 rfl _ _ rfl rfl (hcp2 _ (fun _ => rfl) (fun _ => rfl) _ _) ?_)
  go_ret
  first | exact ⟨rfl, rfl⟩ | exact ⟨rfl, by rw [hW1]⟩

set_option maxHeartbeats 4000000 in
set_option maxRecDepth 100000 in
theorem insertI_grow (b off n c i vb voff m vc : Nat) (cs vs : List Value) (w : World) (hi : i < n) (hm : 0 < m) (hnc : n ≤ c) (hroom : c < n + m) (hbig : (n + m) * 8 ≤ 140737488355328)
    (hcl : cs.length = n) (hvl : vs.length = m)
    (hcs : ∀ j v, cs[j]? = some v → w.cell? ⟨b, off + j, none⟩ = some v)
    (hvs : ∀ j v, vs[j]? = some v → w.cell? ⟨vb, voff + j, none⟩ = some v) (h1c : ∀ v ∈ cs, v.oneCell' = true) (h1v : ∀ v ∈ vs, v.oneCell' = true) :
    Calls Try.prog 66 #[.slice (some ⟨b, off, none⟩) n c, .int .i64 i, .slice (some ⟨vb, voff, none⟩) m vc] w fun e w' =>
      e = .returned (.slice (some ⟨w.heap.size, 0, none⟩) (n + m) (grownCap w (n + m) c 3)) ∧
      w' = (((w.alloc (.cells ((cs.take i).toArray ++ Builtin.zeroCells (Value.int .i64 0).cells (n + m - i) ++ Builtin.zeroCells (Value.int .i64 0).cells (grownCap w (n + m) c 3 - (n + m))) 3)).drew.setCells w.heap.size i vs).drew).setCells w.heap.size (i + m) (cs.drop i) := by
  obtain ⟨i0, hi0, hz0, hzs, hzb⟩ := info_parts infoI
  have hz1 : ¬ ((m : Int) = 0) := by omega
  have hz2 : ¬ ((i : Int) = (n : Int)) := by omega
  have hz3 : (c : Int) < (n : Int) + (m : Int) := by omega
  have hsz : (Try.prog.info? 3).map (·.size) = some 1 := by rw [hi0]; simp [hzs]
  have hbw : b < w.heap.size := block_lt_of_cell (hcs 0 _ (List.getElem?_eq_getElem (by omega)))
  have hvw : vb < w.heap.size := block_lt_of_cell (hvs 0 _ (List.getElem?_eq_getElem (by omega)))
  have hkk : (n : Int) + (m : Int) - (i : Int) = ((n + m - i : Nat) : Int) := by omega
  have hik : i + (n + m - i) = n + m := by omega
  have hold : (Builtin.firstCells i0.size i (.slice (some ⟨b, off, none⟩) i c)).run Try.prog w.drew = .ok (cs.take i).toArray w.drew := by
    rw [hzs]
    exact run_firstCells_some w.drew 1 i ⟨b, off, none⟩ i c (cs.take i) (by rw [List.length_take]; omega) (fun j v hj => by
      rw [Addr.add_lit]
      rw [List.getElem?_take] at hj
      split at hj
      · exact hcs j v hj
      · cases hj)
  have hrz : ∀ ty, (Builtin.append_ #[64, 3] ty #[.slice (some ⟨b, off, none⟩) i c, .int .i64 ((n : Int) + (m : Int) - (i : Int))]).run Try.prog w =
      .ok (.slice (some ⟨w.heap.size, 0, none⟩) (n + m) (grownCap w (n + m) c 3)) (w.drew.alloc (.cells ((cs.take i).toArray ++ Builtin.zeroCells (Value.int .i64 0).cells (n + m - i) ++ Builtin.zeroCells (Value.int .i64 0).cells (grownCap w (n + m) c 3 - (n + m))) 3)) := fun ty => by
    have h := Lib.run_append_grow_zeros w 64 3 ty 3 i0 _ .i64 .i64 Try.underlying64 Try.underlying3 hi0 hz0 (some ⟨b, off, none⟩) i c (cs.take i) hold (n + m - i) (by omega) (by omega) (by omega) (by omega) (by rw [hzb]; omega) (by rw [hzb, hik]; exact growslice_fits hroom hbig)
    rw [hik] at h
    rw [hkk]
    exact h
  obtain ⟨G, hG⟩ : ∃ G, G = grownCap w (n + m) c 3 := ⟨_, rfl⟩
  obtain ⟨ROW, hROW⟩ : ∃ ROW : Array Value, ROW = (cs.take i).toArray ++ Builtin.zeroCells (Value.int .i64 0).cells (n + m - i) ++ Builtin.zeroCells (Value.int .i64 0).cells (G - (n + m)) := ⟨_, rfl⟩
  rw [← hG] at hrz ⊢
  rw [← hROW] at hrz ⊢
  have hRl : n + m ≤ ROW.size := by
    rw [hROW]
    simp [Builtin.zeroCells, Value.cells]
    omega
  obtain ⟨W1, hW1⟩ : ∃ W1, W1 = w.drew.alloc (.cells ROW 3) := ⟨_, rfl⟩
  rw [← hW1] at hrz
  have hN : ∀ j, j < n + m → (W1.cell? ⟨w.heap.size, j, none⟩).isSome = true := fun j hj => by
    rw [hW1, World.cell?_alloc_at (w := w.drew) ROW _ w.heap.size j rfl, Array.getElem?_eq_getElem (by omega)]; rfl
  have hNf : ∀ j, W1.frozen? ⟨w.heap.size, j, none⟩ = false := fun j => by rw [hW1]; exact World.frozen?_alloc_at (w := w.drew) ROW _ w.heap.size j rfl
  have hOb : ∀ j v, w.cell? ⟨b, j, none⟩ = some v → W1.cell? ⟨b, j, none⟩ = some v := fun j v h => by rw [hW1, World.cell?_alloc_past (w := w.drew) _ b j hbw]; exact h
  have hOv : ∀ j v, w.cell? ⟨vb, j, none⟩ = some v → W1.cell? ⟨vb, j, none⟩ = some v := fun j v h => by rw [hW1, World.cell?_alloc_past (w := w.drew) _ vb j hvw]; exact h
  have hcpA : ∀ (W : World), (∀ x, W.cell? x = W1.cell? x) → (∀ x, W.frozen? x = W1.frozen? x) → ∀ ty dc, (Builtin.copy_ #[64, 64] ty #[.slice (some ⟨w.heap.size, i, none⟩) (n + m - i) dc, .slice (some ⟨vb, voff, none⟩) m vc]).run Try.prog W = .ok (goInt vs.length) (W.setCells w.heap.size i vs) := fun W hWc hWf ty dc =>
    run_copy_cells W _ _ ty 3 w.heap.size i (n + m - i) dc ⟨vb, voff, none⟩ m vc vs Try.underlying64 hsz (by rw [hvl]; simp only [Nat.min_def]; split <;> omega)
      (fun j v hj => by rw [Addr.add_lit, hWc]; exact hOv _ v (hvs j v hj))
      (fun j hj => by rw [hWc]; exact hN _ (by omega)) (fun j hj => by rw [hWf]; exact hNf _) h1v
  have hGn : n + m ≤ G := by rw [hG]; exact grownCap_ge w _ _ _
  have hG63 : G ≤ 9223372036854775807 := by
    have := grownCap_le_maxLen w (n + m) c 3 (by unfold maxLen; omega)
    rw [← hG] at this
    unfold maxLen at this
    omega
  have hGi : ¬ (G = i) := by omega
  have hGim : ¬ (G = i + m) := by omega
  have hci : ¬ (c = i) := by omega
  have hbN : b ≠ w.heap.size := by omega
  have hdl : (cs.drop i).length = n - i := by rw [List.length_drop, hcl]
  have hcpB : ∀ (W : World), (∀ x, W.cell? x = (W1.setCells w.heap.size i vs).cell? x) → (∀ x, W.frozen? x = (W1.setCells w.heap.size i vs).frozen? x) → ∀ ty dc sc, (Builtin.copy_ #[64, 64] ty #[.slice (some ⟨w.heap.size, i + m, none⟩) (n + m - (i + m)) dc, .slice (some ⟨b, off + i, none⟩) (n - i) sc]).run Try.prog W = .ok (goInt (cs.drop i).length) (W.setCells w.heap.size (i + m) (cs.drop i)) := fun W hWc hWf ty dc sc =>
    run_copy_cells W _ _ ty 3 w.heap.size (i + m) (n + m - (i + m)) dc ⟨b, off + i, none⟩ (n - i) sc (cs.drop i) Try.underlying64 hsz (by rw [hdl]; simp only [Nat.min_def]; split <;> omega)
      (fun j v hj => by
        rw [Addr.add_lit, hWc, World.cell?_setCells_out _ _ _ _ _ (fun h _ => absurd h hbN), Nat.add_assoc]
        exact hOb _ v (hcs (i + j) v (by rwa [List.getElem?_drop] at hj)))
      (fun j hj => by rw [hWc]; exact isSome_setCellsI _ _ _ _ (fun t ht => hN _ (by omega)) _ (hN _ (by omega)))
      (fun j hj => by rw [hWf, World.frozen?_setCells]; exact hNf _) (fun v hv => h1c v (List.mem_of_mem_drop hv))
  subst hW1
  have hE1 : ∀ x, ((w.alloc (.cells ROW 3)).drew).cell? x = (w.drew.alloc (.cells ROW 3)).cell? x := fun x => rfl
  have hE2 : ∀ x, ((w.alloc (.cells ROW 3)).drew).frozen? x = (w.drew.alloc (.cells ROW 3)).frozen? x := fun x => rfl
  have hF1 : ∀ x, (((w.alloc (.cells ROW 3)).drew.setCells w.heap.size i vs).drew).cell? x = ((w.drew.alloc (.cells ROW 3)).setCells w.heap.size i vs).cell? x := fun x => rfl
  have hF2 : ∀ x, (((w.alloc (.cells ROW 3)).drew.setCells w.heap.size i vs).drew).frozen? x = ((w.drew.alloc (.cells ROW 3)).setCells w.heap.size i vs).frozen? x := fun x => rfl
  have hw1 : IntKind.i64.wrap ((i : Int) + (m : Int)) = (i : Int) + (m : Int) := by rw [IntKind.wrap_i64]; omega
  have hb1 : (0 : Int) ≤ (i : Int) + (m : Int) := by omega
  have hin : i ≤ n := by omega
  have htn : ((i : Int) + (m : Int)).toNat = i + m := by omega
  have hb3 : (i : Int) ≤ (n : Int) := by omega
  clear hkk hik hold hROW hG hRl
  go_enter Try.func66, Try.ntmps66
  go_wp2_with (first
    | (at_builtin; refine Lib.wpList_append_run _ rfl _ _ _ _ rfl _ _ rfl rfl _ _ (hrz _) ?_)
    | (at_builtin; refine wpList_copy_runI _ rfl _ _ 64 64 rfl _ _ rfl rfl (hcpA _ hE1 hE2 _ _) ?_)
    | (at_builtin; refine wpList_copy_runI _ rfl _ _ 64 64 rfl _ _ rfl rfl (hcpB _ (fun _ => rfl) (fun _ => rfl) _ _ _) ?_))
  go_region_law (refine step_copy_runI rfl _ _ 64 64 rfl (.slice (some ⟨w.heap.size, i + m, none⟩) (n + m - (i + m)) (G - (i + m))) (.slice (some ⟨b, off + i, none⟩) (n - i) (c - i)) (by simp [Act.eval, Act.put]) (by simp [Act.eval, Act.put]) (hcpB _ hF1 hF2 3 (G - (i + m)) (c - i)) ?_)
  go_wp2
  go_ret
  exact ⟨rfl, rfl⟩
set_option maxHeartbeats 1000000 in
set_option maxRecDepth 100000 in
theorem insertI (base : Nat) (v : Value) (n i vb : Nat) (xs : List Value) (x : Value) (w : World) (hx : x.oneCell' = true) (hxs : ∀ u ∈ xs, u.oneCell' = true) (hn : n ≤ 1048576) (hi : i ≤ n)
    (hown : w.ownsRow base 3 1 v n xs) (hvb : w.heap[vb]? = some (.cells #[x] 3 (0, 0))) (hne : v.ownBlock ≠ some vb) (hbase : base ≤ w.heap.size) :
    Calls Try.prog 66 #[v, .int .i64 i, .slice (some ⟨vb, 0, none⟩) 1 1] w fun e w' =>
      ∃ v', e = .returned v' ∧ w'.ownsRow base 3 1 v' (n + 1) (xs.take i ++ x :: xs.drop i) ∧ Only (fun k => v.ownBlock = some k) w w' ∧ (v'.ownBlock = v.ownBlock ∨ v'.ownBlock = some w.heap.size) := by
  have hl : xs.length = n := by have := hown.1; omega
  have hvc : ∀ j u, [x][j]? = some u → w.cell? ⟨vb, 0 + j, none⟩ = some u := by
    intro j u hj
    rw [cell_of_blk w vb _ _ _ hvb]
    cases j with
    | zero => simpa using hj
    | succ j => simp at hj
  rcases Nat.lt_or_ge i n with hlt | hge
  · rcases own_forms hown with ⟨_, h0, _⟩ | ⟨g, cap, cur, rfl, hg, hh, hnc, hcm, hcs, _⟩
    · omega
    · have hgv : vb ≠ g := fun e => hne (by rw [e]; rfl)
      have hcx : ∀ j u, xs[j]? = some u → w.cell? ⟨g, 0 + j, none⟩ = some u := fun j u hj => by rw [Nat.zero_add]; exact own_cell hown j u hj
      have hcell : ∀ j, j < cap → (w.cell? ⟨g, 0 + j, none⟩).isSome = true := fun j hj => by
        rw [cell_of_blk w g _ _ _ hh, Nat.zero_add, Array.getElem?_eq_getElem (by omega)]; rfl
      have hfr : ∀ j, w.frozen? ⟨g, j, none⟩ = false := fun j => by simp [World.frozen?, hh]
      have hfv : ∀ j, w.frozen? ⟨vb, j, none⟩ = false := fun j => by simp [World.frozen?, hvb]
      have hgl : g < w.heap.size := (Array.getElem?_eq_some_iff.1 hh).1
      rcases Nat.lt_or_ge cap (n + 1) with hroom | hroom
      · refine (insertI_grow g 0 n cap i vb 0 1 1 xs [x] w hlt (by omega) hnc hroom (by omega) hl rfl hcx hvc hxs (by simpa using hx)).mono ?_
        rintro e w' ⟨rfl, rfl⟩
        refine ⟨_, rfl, ?_, ?_, .inr rfl⟩
        · obtain ⟨G, hG⟩ : ∃ G, G = grownCap w (n + 1) cap 3 := ⟨_, rfl⟩
          have hGn : n + 1 ≤ G := by rw [hG]; exact grownCap_ge w _ _ _
          have hGm : G ≤ maxLen := by rw [hG]; exact grownCap_le_maxLen w _ _ _ (by unfold maxLen; omega)
          rw [← hG]
          obtain ⟨ROW, hR⟩ : ∃ ROW : Array Value, ROW = (xs.take i).toArray ++ Builtin.zeroCells (Value.int .i64 0).cells (n + 1 - i) ++ Builtin.zeroCells (Value.int .i64 0).cells (G - (n + 1)) := ⟨_, rfl⟩
          rw [← hR]
          have hRs : ROW.size = G := by rw [hR]; simp [Builtin.zeroCells, Value.cells]; omega
          have hh0 : (w.alloc (.cells ROW 3)).heap[w.heap.size]? = some (.cells ROW 3 (0, 0)) := heap_alloc_new w _
          obtain ⟨c1, hh1, hs1⟩ := setCells_block w.heap.size [x] i (w.alloc (.cells ROW 3)).drew ROW _ _ hh0
          obtain ⟨c2, hh2, hs2⟩ := setCells_block w.heap.size (xs.drop i) (i + 1) ((w.alloc (.cells ROW 3)).drew.setCells w.heap.size i [x]).drew c1 _ _ hh1
          refine ownsRow_of_cells hbase hh2 (by omega) hGn hGm (by simp; omega) ?_
          intro j u hj
          have hsome : ∀ k, k < n + 1 → (((w.alloc (.cells ROW 3)).drew).cell? ⟨w.heap.size, k, none⟩).isSome = true := fun k hk => by
            show ((w.alloc (.cells ROW 3)).cell? ⟨w.heap.size, k, none⟩).isSome = true
            rw [cell_of_blk _ _ _ _ _ hh0, Array.getElem?_eq_getElem (by omega)]; rfl
          have hsome1 : ∀ k, k < n + 1 → (((w.alloc (.cells ROW 3)).drew.setCells w.heap.size i [x]).drew.cell? ⟨w.heap.size, k, none⟩).isSome = true := fun k hk => by
            show (((w.alloc (.cells ROW 3)).drew.setCells w.heap.size i [x]).cell? ⟨w.heap.size, k, none⟩).isSome = true
            exact isSome_setCellsI _ _ _ _ (fun t ht => hsome _ (by simp at ht; omega)) _ (hsome _ hk)
          by_cases h1 : j < i + 1
          · rw [World.cell?_setCells_out _ _ _ _ _ (fun _ _ => .inl h1)]
            show ((w.alloc (.cells ROW 3)).drew.setCells w.heap.size i [x]).cell? ⟨w.heap.size, j, none⟩ = some u
            by_cases h2 : j < i
            · rw [World.cell?_setCells_out _ _ _ _ _ (fun _ _ => .inl h2)]
              show (w.alloc (.cells ROW 3)).cell? ⟨w.heap.size, j, none⟩ = some u
              rw [cell_of_blk _ _ _ _ _ hh0, hR]
              rw [List.getElem?_append_left (by rw [List.length_take]; omega)] at hj
              rw [Array.getElem?_append_left (by simp; omega), Array.getElem?_append_left (by simp; omega)]
              simpa using hj
            · obtain rfl : j = i := by omega
              rw [List.getElem?_append_right (by rw [List.length_take]; omega), List.length_take, show j - min j xs.length = 0 by omega] at hj
              have hin := World.cell?_setCells_in w.heap.size [x] j (w.alloc (.cells ROW 3)).drew (fun t ht => hsome _ (by simp at ht; omega)) 0 (by simp)
              rw [Nat.add_zero] at hin
              rw [hin]; simpa using hj
          · rw [List.getElem?_append_right (by rw [List.length_take]; omega), List.length_take] at hj
            obtain ⟨t, rfl⟩ : ∃ t, j = i + 1 + t := ⟨j - (i + 1), by omega⟩
            rw [show i + 1 + t - min i xs.length = t + 1 by omega, List.getElem?_cons_succ] at hj
            have ht := (List.getElem?_eq_some_iff.1 hj).1
            rw [World.cell?_setCells_in w.heap.size (xs.drop i) (i + 1) _ (fun s hs => hsome1 _ (by simp at hs; omega)) t ht]
            rw [List.getElem?_eq_getElem ht] at hj; exact hj
        · have a1 := Only.alloc (fun k => Value.ownBlock (.slice (some ⟨g, 0, none⟩) n cap) = some k) w (.cells ((xs.take i).toArray ++ Builtin.zeroCells (Value.int .i64 0).cells (n + 1 - i) ++ Builtin.zeroCells (Value.int .i64 0).cells (grownCap w (n + 1) cap 3 - (n + 1))) 3)
          refine (a1.trans (Only.drew (fun _ => False) _) (fun _ _ h => h.elim)).trans (((Only.grown (setCells_grown w.heap.size [x] i _)).trans (Only.drew (fun _ => False) _) (fun _ _ h => h.elim)).trans (Only.grown (setCells_grown w.heap.size (xs.drop i) (i + 1) _)) (fun _ _ h => h)) ?_
          intro k hk h
          injection h with h
          omega
      · refine (insertI_shift g 0 n cap i vb 0 1 1 xs [x] w hlt (by omega) hroom (by unfold maxLen at hcm; omega) hgv hl rfl hcx (fun j hj => hcell j (by omega)) (fun j hj => hfr _) hvc hxs (by simpa using hx) 3 3 1 cap (by simp [World.shape?, hvb]) (by simp [World.shape?, hh, hcs]) (by omega) (hfv _) (hfv _)).mono ?_
        rintro e w' ⟨rfl, rfl⟩
        simp only [Nat.zero_add]
        refine ⟨_, rfl, ?_, ?_, .inl rfl⟩
        · obtain ⟨c1, hh1, hs1⟩ := setCells_block g (xs.drop i) (i + 1) w.drew cur _ _ hh
          obtain ⟨c2, hh2, hs2⟩ := setCells_block g [x] i (w.drew.setCells g (i + 1) (xs.drop i)) c1 _ _ hh1
          refine ownsRow_of_cells hg hh2 (by omega) hroom hcm (by simp; omega) ?_
          intro j u hj
          have hsome : ∀ k, k < cap → (w.drew.cell? ⟨g, k, none⟩).isSome = true := fun k hk => by
            have := hcell k hk; rw [Nat.zero_add] at this; exact this
          have hsome1 : ∀ k, k < cap → ((w.drew.setCells g (i + 1) (xs.drop i)).cell? ⟨g, k, none⟩).isSome = true := fun k hk =>
            isSome_setCellsI _ _ _ _ (fun t ht => hsome _ (by simp at ht; omega)) _ (hsome _ hk)
          by_cases h1 : j = i
          · subst h1
            rw [List.getElem?_append_right (by rw [List.length_take]; omega), List.length_take, show j - min j xs.length = 0 by omega] at hj
            have hin := World.cell?_setCells_in g [x] j (w.drew.setCells g (j + 1) (xs.drop j)) (fun t ht => hsome1 _ (by simp at ht; omega)) 0 (by simp)
            simp only [Nat.add_zero] at hin
            rw [hin]; simpa using hj
          · rw [World.cell?_setCells_out g [x] _ _ _ (fun _ _ => by show j < i ∨ i + [x].length ≤ j; simp; omega)]
            by_cases h2 : j < i
            · rw [World.cell?_setCells_out _ _ _ _ _ (fun _ _ => .inl (by show j < i + 1; omega))]
              rw [List.getElem?_append_left (by rw [List.length_take]; omega), List.getElem?_take_of_lt h2] at hj
              exact own_cell hown j u hj
            · rw [List.getElem?_append_right (by rw [List.length_take]; omega), List.length_take] at hj
              obtain ⟨t, rfl⟩ : ∃ t, j = i + 1 + t := ⟨j - (i + 1), by omega⟩
              rw [show i + 1 + t - min i xs.length = t + 1 by omega, List.getElem?_cons_succ] at hj
              have ht := (List.getElem?_eq_some_iff.1 hj).1
              rw [World.cell?_setCells_in g (xs.drop i) (i + 1) _ (fun s hs => hsome _ (by simp at hs; omega)) t ht]
              rw [List.getElem?_eq_getElem ht] at hj; exact hj
        · exact (((Only.drew (fun k => some g = some k) w).trans (Only.grown (setCells_grown g (xs.drop i) (i + 1) w.drew)) (fun _ _ h => h)).trans (Only.grown (setCells_grown g [x] i _)) (fun _ _ h => h))
  · obtain rfl : i = n := by omega
    obtain ⟨i0, hi0, hz0, hz1, hz2⟩ := info_parts infoI
    have hvc' : ∀ j u, [x][j]? = some u → w.cell? ((⟨vb, 0, none⟩ : Addr).add j) = some u := fun j u hj => by rw [Addr.add_lit]; exact hvc j u hj
    have h63 : i + 1 ≤ maxLen := by unfold maxLen; omega
    have hfin : ∀ (v' : Value) (w1 : World), w1.ownsRow base 3 1 v' (i + 1) (xs ++ [x]) → w.grownBy w1 v.ownBlock → (v'.ownBlock = v.ownBlock ∨ v'.ownBlock = some w.heap.size) →
        ∃ v'', Ending.returned v' = .returned v'' ∧ w1.ownsRow base 3 1 v'' (i + 1) (xs.take i ++ x :: xs.drop i) ∧ Only (fun k => v.ownBlock = some k) w w1 ∧ (v''.ownBlock = v.ownBlock ∨ v''.ownBlock = some w.heap.size) := by
      intro v' w1 h1 h2 h4
      refine ⟨v', rfl, ?_, Only.grown h2, h4⟩
      rw [List.take_of_length_le (by omega), List.drop_of_length_le (by omega)]
      exact h1
    rcases own_forms hown with ⟨rfl, rfl, rfl⟩ | ⟨g, cap, cur, rfl, hg, hh, hnc, hcm, hcs, _⟩
    · have HF := Lib.hid hfin; clear hfin
      have HL := Lib.hid hl; clear hl
      go_enter Try.func66, Try.ntmps66
      go_wp2_with (at_builtin; refine wpList_append_own_at _ rfl (.tmp 23) (.tmp 24) 64 rfl base 3 i0 _ 1 8 Try.underlying64 hi0 hz0 hz1 hz2 rfl (by decide) (.slice none 0 0) 0 [] rfl hown ⟨vb, 0, none⟩ 1 1 [x] rfl rfl hvc' (by simpa using hx) h63 (by omega) hbase ?_; intro v' w1 h1 h2 h3 h4)
      go_ret
      exact HF.out _ _ h1 h2 h4
    · rename_i hxl
      clear hxl
      have HF := Lib.hid hfin; clear hfin
      have HL := Lib.hid hl; clear hl
      have hgl : g < w.heap.size := (Array.getElem?_eq_some_iff.1 hh).1
      have HH := Lib.hid hh; have HS := Lib.hid hcs; clear hh hcs
      unfold maxLen at hcm
      go_enter Try.func66, Try.ntmps66
      go_wp2_with (at_builtin; refine wpList_append_own_at _ rfl (.tmp 23) (.tmp 24) 64 rfl base 3 i0 _ 1 8 Try.underlying64 hi0 hz0 hz1 hz2 rfl (by decide) (.slice (some ⟨g, 0, none⟩) i cap) i xs rfl hown ⟨vb, 0, none⟩ 1 1 [x] rfl rfl hvc' (by simpa using hx) h63 (by omega) hbase ?_; intro v' w1 h1 h2 h3 h4)
      all_goals
        go_ret
        exact HF.out _ _ h1 h2 h4
end Go.Proofs.Yteojcdpmlhlfaaa
