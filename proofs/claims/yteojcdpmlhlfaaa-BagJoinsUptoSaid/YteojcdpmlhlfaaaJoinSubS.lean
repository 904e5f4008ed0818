/- bag.Set[string]'s Join where the other's items are there already: nothing that lay is turned. Condition: each item of the other is the set's. -/
import Derived.Test.YteojcdpmlhlfaaaJoinS
namespace Go.Proofs.Yteojcdpmlhlfaaa
open Go.RowKit Go.Shelf
attribute [local go_sem] Oper.semAt_some
namespace SS
theorem add_old (base p o : Nat) (v : Value) (xs : List ByteArray) (x : ByteArray) (w : World) (h : IsSetS w base v xs) (hn : xs.length ≤ 1048576) (cs : Array Value) (t : TypeId) (hp : w.heap[p]? = some (.cells cs t (0, 0))) (ho : cs[o]? = some v) (hx : x ∈ xs) :
    Calls Try.prog 21 #[.pointer (some ⟨p, o, none⟩), .string x] w fun e w' => e = .returned (.bool false) ∧ w = w' := by
  have hc : w.cell? ⟨p, o, none⟩ = some v := by rw [cell_of_blk w p _ _ _ hp]; exact ho
  have hF := findS base v xs x w h hn
  rw [show decide (x ∈ xs) = true from decide_eq_true hx] at hF
  have HFIND := Lib.hid hF; clear hF h hn hp ho hx
  go_enter Try.func21, Try.ntmps21
  go_wp2_with fail
  refine HFIND.out.mono ?_; rintro e w' ⟨rfl, rfl⟩
  go_wp2
  go_ret
  exact ⟨rfl, rfl⟩
set_option maxRecDepth 100000 in
set_option maxHeartbeats 2000000 in
theorem join_sub (base p o b2 : Nat) (v v2 : Value) (xs ys : List ByteArray) (w : World) (h : IsSetS w base v xs) (h2 : IsSetS w b2 v2 ys) (hn : xs.length ≤ 1048576) (cs : Array Value) (t : TypeId) (hp : w.heap[p]? = some (.cells cs t (0, 0))) (ho : cs[o]? = some v)
    (hsub : ∀ y ∈ ys, y ∈ xs) :
    Calls Try.prog 20 #[.pointer (some ⟨p, o, none⟩), .agg #[v2]] w fun e w' => e = .returned (.bool false) ∧ Below w.heap.size w w' := by
  have hlt : p < w.heap.size := (Array.getElem?_eq_some_iff.1 hp).1
  obtain ⟨A2, c2, rfl, hc2, hm2, _⟩ := isset_cells h2
  refine (callsIn_wide (n := 3)).1 ?_
  refine callsIn_of_wp_marks Try.func20 rfl trivial ?_ rfl
  simp only [Try.ntmps20, List.size_toArray, List.length_cons, List.length_nil, Nat.reduceAdd, Nat.reduceSub, Array.replicate_succ, Array.replicate_zero, List.push_toArray, List.append_toArray, List.nil_append, List.cons_append]
  refine wpIn_wide.2 ?_
  go_wp2_with fail
  refine (all _ _).mono ?_
  rintro e w5 ⟨rfl, rfl⟩
  obtain ⟨W5, hW5⟩ : ∃ W5, W5 = (((w.alloc (.cells #[.pointer (some ⟨p, o, none⟩)] 95)).alloc (.cells #[.slice A2 ys.length c2] 47)).alloc (.cells #[.bool false] 4)).alloc (.cells #[.slice A2 ys.length c2] 47) := ⟨_, rfl⟩
  have ho5 : Only (fun _ => False) w W5 := by
    rw [hW5]
    exact (((Only.alloc _ w _).trans (Only.alloc (fun _ => False) _ _) (fun _ _ => id)).trans (Only.alloc (fun _ => False) _ _) (fun _ _ => id)).trans (Only.alloc (fun _ => False) _ _) (fun _ _ => id)
  have hsz5 : W5.heap.size = w.heap.size + 4 := by rw [hW5]; simp
  have hz0 : W5.heap[w.heap.size]? = some (.cells #[.pointer (some ⟨p, o, none⟩)] 95 (0, 0)) := by
    rw [hW5]
    exact (Below.heap_alloc _ _ _ (by simp; omega)).trans ((Below.heap_alloc _ _ _ (by simp; omega)).trans ((Below.heap_alloc _ _ _ (by simp)).trans (heap_alloc_new w _)))
  have hz2 : W5.heap[w.heap.size + 2]? = some (.cells #[.bool false] 4 (0, 0)) := by
    rw [hW5]
    refine (Below.heap_alloc _ _ _ (by simp)).trans ?_
    have := heap_alloc_new ((w.alloc (.cells #[.pointer (some ⟨p, o, none⟩)] 95)).alloc (.cells #[.slice A2 ys.length c2] 47)) (.cells #[.bool false] 4)
    rwa [World.size_alloc, World.size_alloc] at this
  have hz3 : W5.heap[w.heap.size + 3]? = some (.cells #[.slice A2 ys.length c2] 47 (0, 0)) := by
    rw [hW5]
    have := heap_alloc_new (((w.alloc (.cells #[.pointer (some ⟨p, o, none⟩)] 95)).alloc (.cells #[.slice A2 ys.length c2] 47)).alloc (.cells #[.bool false] 4)) (.cells #[.slice A2 ys.length c2] 47)
    rwa [World.size_alloc, World.size_alloc, World.size_alloc] at this
  have hs5 : IsSetS W5 base v xs := h.only ho5 (fun _ _ => id)
  have hp5 := (ho5.block p hlt id).trans hp
  have hc5 : CellsAt A2 ys W5 := CellsAt.only hc2 ho5 (fun _ _ _ => id)
  have hvlt := fun g hg => (own_lt h.own (g := g) hg).1
  have hA2lt : ∀ g o', A2 = some ⟨g, o', none⟩ → g < w.heap.size := fun g o' e => by subst e; exact (own_lt h2.own rfl).1
  rw [World.size_alloc, World.size_alloc, World.size_alloc, ← hW5]
  clear hW5 hc2
  obtain ⟨z, hz⟩ : ∃ z, w.heap.size = z := ⟨_, rfl⟩
  rw [hz] at hlt hsz5 hz0 hz2 hz3 hvlt hA2lt ⊢
  have HO5 := Lib.hid ho5
  have hR : ∀ W, Only (fun j => j = z + 2 ∨ j = z + 4 + 1) W5 W → W.heap[z + 2]? = some (.cells #[.bool false] 4 (0, 0)) → CellsAt A2 ys W ∧ W.cell? ⟨z + 3, 0, none⟩ = some (.slice A2 ys.length c2) ∧ W.cell? ⟨z, 0, none⟩ = some (.pointer (some ⟨p, o, none⟩)) ∧ W.cell? ⟨z + 2, 0, none⟩ = some (.bool false) ∧ W.frozen? ⟨z + 2, 0, none⟩ = false ∧
      W.heap[p]? = some (.cells cs t (0, 0)) ∧ IsSetS W base v xs := fun W hO b2 => by
    have b0 := (hO.block z (by omega) (by omega)).trans hz0
    have b3 := (hO.block (z + 3) (by omega) (by omega)).trans hz3
    refine ⟨CellsAt.only hc5 hO (fun g o' e => by have := hA2lt g o' e; omega), by rw [cell_of_blk _ _ _ _ _ b3]; rfl, by rw [cell_of_blk _ _ _ _ _ b0]; rfl, by rw [cell_of_blk _ _ _ _ _ b2]; rfl, by simp [World.frozen?, b2], (hO.block p (by omega) (by omega)).trans hp5, hs5.only hO (fun g hg e => by have := hvlt g hg; omega)⟩
  have HR := Lib.hid hR
  have HZ2 := Lib.hid hz2
  clear hR hs5 hp5 hz2 hz0 hz3 hc5 h hp h2
  go_wp2_with fail
  refine (wpIn_wide (n := 3)).1 ?_
  generalize hact : (Act.mk _ _ : Act) = a0
  obtain ⟨D, hD⟩ : ∃ D, W5.heap.size = D := ⟨_, rfl⟩
  refine wpIn_rf_steps (n := 3) rfl (by omega) (gf := 78) (lb := #[.pointer (some ⟨z + 3, 0, none⟩)]) (by rw [← hact]; rfl) trivial (enters_of Try.func78 (by kernel_rfl) rfl) (encs := encs ys) (N := ys.length) (fun _ => rfl)
    (Rd := fun W => CellsAt A2 ys W ∧ W.cell? ⟨z + 3, 0, none⟩ = some (.slice A2 ys.length c2))
    (fun J Jx hR hY W hJ => all_in 2 (z + 3) _ A2 c2 ys hm2 J Jx (fun k W h => (hR k W h).1) hY W (hR 0 W hJ).2 hJ)
    (fun _ W => Only (fun j => j = z + 2 ∨ j = z + 4 + 1) W5 W ∧ W.heap[z + 2]? = some (.cells #[.bool false] 4 (0, 0)))
    (fun _ _ _ => False)
    ?rd ?I ?Ix ?start (fun k a' W => ∃ y, ys[k]? = some y ∧ a' = Act.mk ((a0.tmps.setIfInBounds 9 (.string y)).setIfInBounds 6 (.string y)) []) ?Ax ?assign ?body ?done ?stop
  case rd => exact fun k W h => ⟨(HR.out W h.1 h.2).1, (HR.out W h.1 h.2).2.1⟩
  case I =>
    rw [hD]
    rintro k X Y ⟨h1, h2⟩ hO
    exact ⟨h1.trans hO (fun x hx e => .inr (by omega)), (hO.block (z + 2) (by have := h1.size; omega) (by omega)).trans h2⟩
  case Ix => exact fun c k X Y h _ => h
  case start =>
    rintro W hO hlt'
    exact ⟨hO.mono (fun _ _ h => h.elim), (hO.block (z + 2) (by omega) id).trans HZ2.out⟩
  case Ax => exact fun k a' A B h _ => h
  case assign =>
    intro k W K hk hI _ hK
    obtain ⟨y, hy⟩ : ∃ y, ys[k]? = some y := ⟨_, List.getElem?_eq_getElem hk⟩
    have HY := Lib.hid hy
    have he : encs ys k = #[.string y] := by simp [encs, hy]
    rw [he]
    clear hy he
    subst hact
    gi_wp2
    exact hK _ _ (Only.refl _ _) ⟨y, HY.out, rfl⟩
  case body =>
    rw [hD]
    rintro k a' W hk ⟨h1, h2⟩ ⟨y, hy, rfl⟩ hDd ⟨r, hDl⟩
    obtain ⟨_, _, hcz, hcb, hfb, hpW, hsW⟩ := HR.out W h1 h2
    have hy' : y ∈ xs := hsub y (List.mem_of_getElem? hy)
    have HADD := Lib.hid (add_old base p o v xs y W hsW hn _ t hpW ho hy')
    have hW1 := h1.size
    have hDs : D + 1 < W.heap.size := (Array.getElem?_eq_some_iff.1 hDl).1
    have hset := Only.setCell W ⟨z + 2, 0, none⟩ (.bool false)
    have hpost : rfPost D (fun W => Only (fun j => j = z + 2 ∨ j = z + 4 + 1) W5 W ∧ W.heap[z + 2]? = some (.cells #[.bool false] 4 (0, 0))) (fun _ _ => False) W .normal ⟨#[], []⟩ (W.setCell ⟨z + 2, 0, none⟩ (.bool false)) := by
      refine ⟨hset.block D (by omega) (by show ¬ (D = z + 2); omega), hset.block (D + 1) (by omega) (by show ¬ (D + 1 = z + 2); omega), h1.trans hset (fun x hx e => .inl e), ?_⟩
      simp [World.setCell, Array.getElem?_modify, h2]
    have HP := Lib.hid hpost
    clear hpost hset hsW hpW h1 h2 hy hy' hDd hDl HR HZ2
    subst hact
    simp only [List.setIfInBounds_toArray, List.set_cons_zero, List.set_cons_succ]
    gi_wp2_with fail
    refine ⟨trivial, (CallsIn.inRound _ (callsIn_wide.2 HADD.out)).mono ?_⟩
    rintro e w3 ⟨rfl, rfl⟩
    clear HADD
    gi_wp2_with fail
    exact HP.out
  case stop => exact fun c k W h _ => h.elim
  case done =>
    rw [hD]
    rintro W ⟨h1, h2⟩ hDd
    obtain ⟨_, _, _, hcb, _⟩ := HR.out W h1 h2
    have HH := Lib.hid h1
    clear h1 h2
    subst hact
    go_wp2
    refine ⟨by simp, .inl ⟨_, _, rfl, run_takeDeferred hDd, ?_⟩⟩
    refine ⟨_, results_tmp rfl _ _ _, rfl, ?_⟩
    have hh := HH.out
    have hs1 := hh.size
    rw [hz]
    exact (HO5.out.below (by omega) (fun _ _ => id)).trans ((hh.below (by omega) (fun j hj e => by omega)).trans ((Only.putObj _ _ _).below (by omega) (fun j hj e => by omega)))
end SS
end Go.Proofs.Yteojcdpmlhlfaaa
