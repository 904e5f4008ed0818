/- What bag.Set[int]'s Join, Clone and Same answer. Conditions: the sets' rows rise; the one that is joined to has a row of the call's own, apart from the other's. -/
import Derived.Test.YtnkbbjeepdjamaaSetMoreI
import Derived.Test.YtnkbbjeepdjamaaM6
namespace Go.Proofs.Ytnkbbjeepdjamaa
open Go.RowKit Go.Shelf
attribute [local go_sem] Oper.semAt_some
namespace SI

theorem clone (base : Nat) (v : Value) (xs : List Int) (w : World) (h : IsSetI w base v xs) (hn : xs.length ≤ 1048576) :
    Calls Try.prog 40 #[.agg #[v]] w fun e w' => ∃ v', e = .returned (.agg #[v']) ∧ IsSetI w' w.heap.size v' xs ∧ Below w.heap.size w w' := by
  have ho1 : Only (fun _ => False) w ((w.alloc (.cells #[v] 57)).alloc (.cells #[.slice none 0 0] 57)) := (Only.alloc _ w _).trans (Only.alloc (fun _ => False) _ _) (fun _ _ => id)
  have hC := cloneI base v xs _ (h.only ho1 (fun _ _ => id)) hn
  have HC := Lib.hid hC; clear hC
  obtain ⟨W1, hW1⟩ : ∃ W1, W1 = (w.alloc (.cells #[v] 57)).alloc (.cells #[.slice none 0 0] 57) := ⟨_, rfl⟩
  have HW := Lib.hid hW1
  have HO := Lib.hid ho1
  clear hW1 ho1
  go_enter Try.func40, Try.ntmps40
  go_wp2_with fail
  refine HC.out.mono ?_; rintro e w' ⟨v', rfl, hs, hb⟩
  have hp : w'.heap[w.heap.size + 1]? = some (.cells #[.slice none 0 0] 57 (0, 0)) := by
    refine (hb.block _ (by simp)).trans ?_
    have := heap_alloc_new (w.alloc (.cells #[v] 57)) (.cells #[.slice none 0 0] 57); rwa [World.size_alloc] at this
  have hcp : w'.cell? ⟨w.heap.size + 1, 0, none⟩ = some (.slice none 0 0) := by rw [cell_of_blk _ _ _ _ _ hp]; rfl
  have hfp : w'.frozen? ⟨w.heap.size + 1, 0, none⟩ = false := by simp [World.frozen?, hp]
  obtain ⟨A', c', rfl, _, _, _⟩ := isset_cells hs
  have hfin : IsSetI (w'.setCell ⟨w.heap.size + 1, 0, none⟩ (.slice A' xs.length c')) w.heap.size (.slice A' xs.length c') xs ∧ Below w.heap.size w (w'.setCell ⟨w.heap.size + 1, 0, none⟩ (.slice A' xs.length c')) ∧
      (w'.setCell ⟨w.heap.size + 1, 0, none⟩ (.slice A' xs.length c')).cell? ⟨w.heap.size + 1, 0, none⟩ = some (.slice A' xs.length c') := by
    refine ⟨⟨own_base (own_only (Only.setCell w' _ _) hs.own (fun g hg e => ?_)) (by simp; omega), hs.srt⟩, ?_, World.cell?_setCell_same' _ _ _ (by rw [hcp]; rfl)⟩
    · have := (own_lt hs.own hg).2; simp at this; have e' : g = w.heap.size + 1 := e; omega
    · exact ((HO.out.below (Nat.le_refl _) (fun _ _ => id)).trans (hb.mono (by simp; omega))).setCell (by show w.heap.size ≤ w.heap.size + 1; omega) _
  have HF := Lib.hid hfin
  clear hfin hp hs hb
  go_wp2
  have hq := HF.out.2.2
  refine bodyPost_ret (by simp [results, Try.results40, go_sem, hq]) rfl ⟨_, rfl, HF.out.1, HF.out.2.1⟩
theorem same (b1 b2 : Nat) (v v2 : Value) (xs ys : List Int) (w : World) (h : IsSetI w b1 v xs) (h2 : IsSetI w b2 v2 ys) :
    Calls Try.prog 39 #[.agg #[v], .agg #[v2]] w fun e w' => e = .returned (.bool (decide (xs = ys))) ∧ Below w.heap.size w w' := by
  have ho1 : Only (fun _ => False) w ((w.alloc (.cells #[v] 57)).alloc (.cells #[v2] 57)) := (Only.alloc _ w _).trans (Only.alloc (fun _ => False) _ _) (fun _ _ => id)
  obtain ⟨A, c, e1, hc, hm, _⟩ := isset_cells (h.only ho1 (fun _ _ => id))
  obtain ⟨A2, c2, e2, hc2, hm2, _⟩ := isset_cells (h2.only ho1 (fun _ _ => id))
  have HQ := Lib.hid (equal A A2 c c2 xs ys _ hc hc2 hm hm2)
  have HO := Lib.hid ho1
  clear ho1 hc hc2 h h2
  subst e1 e2
  go_enter Try.func39, Try.ntmps39
  go_wp2_with fail
  refine HQ.out.mono ?_; rintro e w' ⟨rfl, m, rfl⟩
  clear HQ
  have hb : Below w.heap.size w (((w.alloc (.cells #[.slice A xs.length c] 57)).alloc (.cells #[.slice A2 ys.length c2] 57)).drewN m) := (HO.out.below (Nat.le_refl _) (fun _ _ => id)).trans ((Only.drewN (fun _ => False) _ m).below (by simp; omega) (fun _ _ => id))
  have HB := Lib.hid hb
  clear hb
  go_wp2
  go_ret
  exact ⟨rfl, HB.out⟩

/-- One set and then another's items. -/
def joinL (xs ys : List Int) : List Int := ys.foldl (fun s x => ins ltI x s) xs
theorem joinL_snoc (xs ys : List Int) (y : Int) : joinL xs (ys ++ [y]) = ins ltI y (joinL xs ys) := by simp [joinL]
theorem joinL_len (xs ys : List Int) : xs.length ≤ (joinL xs ys).length ∧ (joinL xs ys).length ≤ xs.length + ys.length := by
  induction ys generalizing xs with
  | nil => simp [joinL]
  | cons y ys ih =>
    have h1 : joinL xs (y :: ys) = joinL (ins ltI y xs) ys := rfl
    have h2 := ih (ins ltI y xs)
    have h3 := length_ins (lt := ltI) y xs
    rw [h1, List.length_cons]
    split at h3 <;> omega
set_option maxRecDepth 100000 in
set_option maxHeartbeats 2000000 in
theorem join (base p o b2 : Nat) (v v2 : Value) (xs ys : List Int) (w : World) (h : IsSetI w base v xs) (h2 : IsSetI w b2 v2 ys) (hn : xs.length + ys.length ≤ 1048576) (cs : Array Value) (t : TypeId) (hp : w.heap[p]? = some (.cells cs t (0, 0))) (ho : cs[o]? = some v)
    (hne : v.ownBlock ≠ some p) (hbase : base ≤ w.heap.size) (hv2 : v2.ownBlock ≠ some p) (hsep : ∀ g, v.ownBlock = some g → v2.ownBlock ≠ some g) :
    Calls Try.prog 42 #[.pointer (some ⟨p, o, none⟩), .agg #[v2]] w fun e w' =>
      ∃ v', e = .returned (.bool (decide (xs.length < (joinL xs ys).length))) ∧ IsSetI w' base v' (joinL xs ys) ∧ PutAt p o v' (fun k => v.ownBlock = some k) w w' ∧ (v'.ownBlock = v.ownBlock ∨ (∃ g, v'.ownBlock = some g ∧ w.heap.size ≤ g)) := by
  have hlt : p < w.heap.size := (Array.getElem?_eq_some_iff.1 hp).1
  obtain ⟨A2, c2, rfl, hc2, hm2, _⟩ := isset_cells h2
  refine (callsIn_wide (n := 3)).1 ?_
  refine callsIn_of_wp_marks Try.func42 rfl trivial ?_ rfl
  simp only [Try.ntmps42, List.size_toArray, List.length_cons, List.length_nil, Nat.reduceAdd, Nat.reduceSub, Array.replicate_succ, Array.replicate_zero, List.push_toArray, List.append_toArray, List.nil_append, List.cons_append]
  refine wpIn_wide.2 ?_
  go_wp2_with fail
  refine (all _ _).mono ?_
  rintro e w5 ⟨rfl, rfl⟩
  obtain ⟨W5, hW5⟩ : ∃ W5, W5 = (((w.alloc (.cells #[.pointer (some ⟨p, o, none⟩)] 97)).alloc (.cells #[.slice A2 ys.length c2] 57)).alloc (.cells #[.bool false] 4)).alloc (.cells #[.slice A2 ys.length c2] 57) := ⟨_, rfl⟩
  have ho5 : Only (fun _ => False) w W5 := by
    rw [hW5]
    exact (((Only.alloc _ w _).trans (Only.alloc (fun _ => False) _ _) (fun _ _ => id)).trans (Only.alloc (fun _ => False) _ _) (fun _ _ => id)).trans (Only.alloc (fun _ => False) _ _) (fun _ _ => id)
  have hsz5 : W5.heap.size = w.heap.size + 4 := by rw [hW5]; simp
  have hz0 : W5.heap[w.heap.size]? = some (.cells #[.pointer (some ⟨p, o, none⟩)] 97 (0, 0)) := by
    rw [hW5]
    exact (Below.heap_alloc _ _ _ (by simp; omega)).trans ((Below.heap_alloc _ _ _ (by simp; omega)).trans ((Below.heap_alloc _ _ _ (by simp)).trans (heap_alloc_new w _)))
  have hz2 : W5.heap[w.heap.size + 2]? = some (.cells #[.bool false] 4 (0, 0)) := by
    rw [hW5]
    refine (Below.heap_alloc _ _ _ (by simp)).trans ?_
    have := heap_alloc_new ((w.alloc (.cells #[.pointer (some ⟨p, o, none⟩)] 97)).alloc (.cells #[.slice A2 ys.length c2] 57)) (.cells #[.bool false] 4)
    rwa [World.size_alloc, World.size_alloc] at this
  have hz3 : W5.heap[w.heap.size + 3]? = some (.cells #[.slice A2 ys.length c2] 57 (0, 0)) := by
    rw [hW5]
    have := heap_alloc_new (((w.alloc (.cells #[.pointer (some ⟨p, o, none⟩)] 97)).alloc (.cells #[.slice A2 ys.length c2] 57)).alloc (.cells #[.bool false] 4)) (.cells #[.slice A2 ys.length c2] 57)
    rwa [World.size_alloc, World.size_alloc, World.size_alloc] at this
  have hs5 : IsSetI W5 base v xs := h.only ho5 (fun _ _ => id)
  have hp5 := (ho5.block p hlt id).trans hp
  have hc5 : CellsAt A2 ys W5 := CellsAt.only hc2 ho5 (fun _ _ _ => id)
  have hvlt := fun g hg => (own_lt h.own (g := g) hg).1
  have hA2lt : ∀ g o', A2 = some ⟨g, o', none⟩ → g < w.heap.size := fun g o' e => by subst e; exact (own_lt h2.own rfl).1
  rw [World.size_alloc, World.size_alloc, World.size_alloc, ← hW5]
  clear hW5 hc2
  obtain ⟨z, hz⟩ : ∃ z, w.heap.size = z := ⟨_, rfl⟩
  rw [hz] at hlt hsz5 hz0 hz2 hz3 hvlt hA2lt hbase ⊢
  have HO5 := Lib.hid ho5
  have hR : ∀ (v1 : Value) W, PutAt p o v1 (fun j => v.ownBlock = some j ∨ j = z + 2) W5 W → CellsAt A2 ys W ∧ W.cell? ⟨z + 3, 0, none⟩ = some (.slice A2 ys.length c2) ∧ W.cell? ⟨z, 0, none⟩ = some (.pointer (some ⟨p, o, none⟩)) := fun v1 W hO => by
    refine ⟨CellsAt.only hc5 hO.only ?_, ?_, ?_⟩
    · rintro g o' e (h' | h' | h')
      · subst e; exact hv2 (by rw [h']; rfl)
      · subst e; exact hsep g h' rfl
      · have := hA2lt g o' e; omega
    · rw [hO.only.cell (p := ⟨z + 3, 0, none⟩) (by show z + 3 < W5.heap.size; omega) ?_, cell_of_blk _ _ _ _ _ hz3]
      · rfl
      · rintro (h' | h' | h')
        · have h' : z + 3 = p := h'; omega
        · have := hvlt _ h'; have : z + 3 < z := this; omega
        · have h' : z + 3 = z + 2 := h'; omega
    · rw [hO.only.cell (p := ⟨z, 0, none⟩) (by show z < W5.heap.size; omega) ?_, cell_of_blk _ _ _ _ _ hz0]
      · rfl
      · rintro (h' | h' | h')
        · have h' : z = p := h'; omega
        · have := hvlt _ h'; have : z < z := this; omega
        · have h' : z = z + 2 := h'; omega
  have HR := Lib.hid hR
  have HS := Lib.hid (And.intro hs5 (And.intro hp5 hz2))
  clear hR hs5 hp5 hz2 hz0 hz3 hc5 h hp h2
  go_wp2_with fail
  refine (wpIn_wide (n := 3)).1 ?_
  generalize hact : (Act.mk _ _ : Act) = a0
  obtain ⟨D, hD⟩ : ∃ D, W5.heap.size = D := ⟨_, rfl⟩
  refine wpIn_rf_steps (n := 3) rfl (by omega) (gf := 71) (lb := #[.pointer (some ⟨z + 3, 0, none⟩)]) (by rw [← hact]; rfl) trivial (enters_of Try.func71 (by kernel_rfl) rfl) (encs := encs ys) (N := ys.length) (fun _ => rfl)
    (Rd := fun W => CellsAt A2 ys W ∧ W.cell? ⟨z + 3, 0, none⟩ = some (.slice A2 ys.length c2))
    (fun J Jx hR hY W hJ => all_in 2 (z + 3) _ A2 c2 ys hm2 J Jx (fun k W h => (hR k W h).1) hY W (hR 0 W hJ).2 hJ)
    (fun k W => ∃ v1, IsSetI W base v1 (joinL xs (ys.take k)) ∧ PutAt p o v1 (fun j => v.ownBlock = some j ∨ j = z + 2) W5 W ∧ (v1.ownBlock = v.ownBlock ∨ ∃ g, v1.ownBlock = some g ∧ D + 2 ≤ g) ∧
      W.heap[z + 2]? = some (.cells #[.bool (decide (xs.length < (joinL xs (ys.take k)).length))] 4 (0, 0)))
    (fun _ _ _ => False)
    ?rd ?I ?Ix ?start (fun k a' W => ∃ y, ys[k]? = some y ∧ a' = Act.mk ((a0.tmps.setIfInBounds 9 (.int .i64 y)).setIfInBounds 6 (.int .i64 y)) []) ?Ax ?assign ?body ?done ?stop
  case rd =>
    rintro k W ⟨v1, _, h1, _⟩
    exact ⟨(HR.out v1 W h1).1, (HR.out v1 W h1).2.1⟩
  case I =>
    rw [hD]
    rintro k X Y ⟨v1, h1, h2, h3, h4⟩ hO
    have hX := h2.only.size
    refine ⟨v1, h1.only hO ?_, h2.only_trans hO (by omega) (by omega) (fun x hx e => by omega), h3, (hO.block (z + 2) (by omega) (by omega)).trans h4⟩
    rintro g hg e
    rcases h3 with h3 | ⟨g', h3, h5⟩
    · have := hvlt g (by rw [← h3]; exact hg); omega
    · rw [h3] at hg; cases hg; omega
  case Ix => exact fun c k X Y h _ => h
  case start =>
    rintro W hO hlt'
    exact ⟨v, by simpa [joinL] using HS.out.1.only hO (fun _ _ => id), (PutAt.refl (S := fun _ => False) HS.out.2.1 ho).only_trans hO id (by omega) (fun _ _ => id) |>.mono' (fun _ h => h.elim), .inl rfl, by simpa [joinL] using (hO.block (z + 2) (by omega) id).trans HS.out.2.2⟩
  case Ax => exact fun k a' A B h _ => h
  case assign =>
    intro k W K hk hI _ hK
    obtain ⟨y, hy⟩ : ∃ y, ys[k]? = some y := ⟨_, List.getElem?_eq_getElem hk⟩
    have HY := Lib.hid hy
    have he : encs ys k = #[.int .i64 y] := by simp [encs, hy]
    rw [he]
    clear hy he
    subst hact
    gi_wp2
    exact hK _ _ (Only.refl _ _) ⟨y, HY.out, rfl⟩
  case body =>
    rw [hD]
    rintro k a' W hk ⟨v1, h1, h2, h3, h4⟩ ⟨y, hy, rfl⟩ hDd ⟨r, hDl⟩
    have hWsz := h2.only.size
    have hDsz : D + 1 < W.heap.size := (Array.getElem?_eq_some_iff.1 hDl).1
    have hcz := (HR.out v1 W h2).2.2
    have hown : ∀ g, v1.ownBlock = some g → (v.ownBlock = some g ∧ g < z) ∨ D + 2 ≤ g := fun g hg => by
      rcases h3 with h3 | ⟨g', h3, h5⟩
      · rw [h3] at hg; exact .inl ⟨hg, hvlt g hg⟩
      · rw [h3] at hg; cases hg; exact .inr h5
    have hjl := joinL_len xs (ys.take k)
    have htk : (ys.take k).length ≤ ys.length := by simp; omega
    have hpW := h2.blk _ _ _ HS.out.2.1
    have hoW : (cs.setIfInBounds o v1)[o]? = some v1 := by
      have := (Array.getElem?_eq_some_iff.1 ho).1
      simp [this]
    have hneW : v1.ownBlock ≠ some p := fun e => by
      rcases hown p e with ⟨h', _⟩ | h'
      · exact hne h'
      · omega
    have hadd := addI base p o v1 (joinL xs (ys.take k)) y W h1 (by omega) _ t hpW hoW hneW (by omega)
    have HADD := Lib.hid hadd; clear hadd
    have hz2 : W.cell? ⟨z + 2, 0, none⟩ = some (.bool (decide (xs.length < (joinL xs (ys.take k)).length))) := by rw [cell_of_blk _ _ _ _ _ h4]; rfl
    have hjn : joinL xs (ys.take (k + 1)) = ins ltI y (joinL xs (ys.take k)) := by rw [take_snoc' ys k y hy, joinL_snoc]
    have hil := length_ins (lt := ltI) y (joinL xs (ys.take k))
    have hnext : ∀ (v' : Value) (w3 : World) (mb : Bool), IsSetI w3 base v' (ins ltI y (joinL xs (ys.take k))) → PutAt p o v' (fun k => v1.ownBlock = some k) W w3 → (v'.ownBlock = v1.ownBlock ∨ ∃ g, v'.ownBlock = some g ∧ W.heap.size ≤ g) →
        mb = decide (xs.length < (joinL xs (ys.take (k + 1))).length) →
        w3.cell? ⟨z + 2, 0, none⟩ = some (.bool (decide (xs.length < (joinL xs (ys.take k)).length))) ∧ w3.frozen? ⟨z + 2, 0, none⟩ = false ∧
        rfPost D (fun W => ∃ v1, IsSetI W base v1 (joinL xs (ys.take (k + 1))) ∧ PutAt p o v1 (fun j => v.ownBlock = some j ∨ j = z + 2) W5 W ∧ (v1.ownBlock = v.ownBlock ∨ ∃ g, v1.ownBlock = some g ∧ D + 2 ≤ g) ∧
          W.heap[z + 2]? = some (.cells #[.bool (decide (xs.length < (joinL xs (ys.take (k + 1))).length))] 4 (0, 0))) (fun _ _ => False) W .normal ⟨#[], []⟩ (w3.setCell ⟨z + 2, 0, none⟩ (.bool mb)) := by
      intro v' w3 mb hs hput hnew hmb
      have hzz : ¬ (z + 2 = p ∨ v1.ownBlock = some (z + 2)) := by
        rintro (h' | h')
        · omega
        · rcases hown _ h' with ⟨_, h'⟩ | h' <;> omega
      have h43 := (hput.only.block (z + 2) (by omega) hzz).trans h4
      have hset := Only.setCell w3 ⟨z + 2, 0, none⟩ (.bool mb)
      have hown' : ∀ g, v'.ownBlock = some g → (v.ownBlock = some g ∧ g < z) ∨ D + 2 ≤ g := fun g hg => by
        rcases hnew with h' | ⟨g', h', h5⟩
        · exact hown g (by rw [← h']; exact hg)
        · rw [h'] at hg; cases hg; exact .inr (by omega)
      have hput2 : PutAt p o v' (fun j => v1.ownBlock = some j ∨ j = z + 2) W (w3.setCell ⟨z + 2, 0, none⟩ (.bool mb)) :=
        (hput.mono' (fun x h => .inl h)).only_trans hset (by show ¬ (p = z + 2); omega) (by have := hput.only.size; omega) (fun x hx e => .inr e)
      refine ⟨by rw [cell_of_blk _ _ _ _ _ h43]; rfl, by simp [World.frozen?, h43], hput2.only.block D (by omega) ?_, hput2.only.block (D + 1) (by omega) ?_, v', ?_, h2.trans hput2 ?_, ?_, ?_⟩
      · rintro (h' | h' | h')
        · omega
        · rcases hown _ h' with ⟨_, h'⟩ | h' <;> omega
        · omega
      · rintro (h' | h' | h')
        · omega
        · rcases hown _ h' with ⟨_, h'⟩ | h' <;> omega
        · omega
      · rw [hjn]
        refine hs.only hset (fun g hg e => ?_)
        have e' : g = z + 2 := e
        rcases hown' g hg with ⟨_, h'⟩ | h' <;> omega
      · rintro x hx (h' | h')
        · rcases hown x h' with ⟨h', _⟩ | h'
          · exact .inl h'
          · omega
        · exact .inr h'
      · cases hg : v'.ownBlock with
        | none =>
          rcases hnew with h' | ⟨g', h', _⟩
          · rcases h3 with h3 | ⟨g', h3, _⟩
            · exact .inl (by rw [← h3, ← h', hg])
            · rw [h', h3] at hg; cases hg
          · rw [hg] at h'; cases h'
        | some g =>
          rcases hown' g hg with ⟨h', _⟩ | h'
          · exact .inl h'.symm
          · exact .inr ⟨g, rfl, h'⟩
      · simp [World.setCell, Array.getElem?_modify, h43, hmb]
    have HN := Lib.hid hnext
    clear hnext hpW hoW hneW hown h1 h2 h3 h4 hDd hDl hz2 HS HR
    rw [← hjn] at hil
    subst hact
    simp only [List.setIfInBounds_toArray, List.set_cons_zero, List.set_cons_succ]
    gi_wp2_with fail
    refine ⟨trivial, (CallsIn.inRound _ (callsIn_wide.2 HADD.out)).mono ?_⟩
    rintro e w3 ⟨v', rfl, hs, hput, hnew⟩
    by_cases hyc : y ∈ joinL xs (ys.take k)
    · rw [if_pos hyc] at hil
      have hb : (!decide (y ∈ joinL xs (ys.take k))) = false := by simp [hyc]
      obtain ⟨hz3, hf3, hpost⟩ := HN.out v' w3 (decide (xs.length < (joinL xs (ys.take k)).length)) hs hput hnew (by rw [hil])
      have HP := Lib.hid hpost
      rw [hb]
      clear hs hput hnew hpost hb HN HADD
      gi_wp2_with fail
      exact HP.out
    · rw [if_neg hyc] at hil
      have hb : (!decide (y ∈ joinL xs (ys.take k))) = true := by simp [hyc]
      obtain ⟨hz3, hf3, hpost⟩ := HN.out v' w3 true hs hput hnew (by symm; exact decide_eq_true (by omega))
      have HP := Lib.hid hpost
      rw [hb]
      clear hs hput hnew hpost hb HN HADD
      gi_wp2_with fail
      exact HP.out
  case stop => exact fun c k W h _ => h.elim
  case done =>
    rw [hD]
    rintro W ⟨v1, h1, h2, h3, h4⟩ hDd
    rw [List.take_of_length_le (Nat.le_refl _)] at h1 h4
    have hz2 : W.cell? ⟨z + 2, 0, none⟩ = some (.bool (decide (xs.length < (joinL xs ys).length))) := by rw [cell_of_blk _ _ _ _ _ h4]; rfl
    have HF := Lib.hid (And.intro h1 (And.intro h2 h3))
    clear h1 h2 h3 h4
    subst hact
    go_wp2
    refine ⟨by simp, .inl ⟨_, _, rfl, run_takeDeferred hDd, ?_⟩⟩
    have hP := Only.putObj W D (.deferred none)
    obtain ⟨h1, h2, h3⟩ := HF.out
    have hsW := h2.only.size
    have hsw := HO5.out.size
    refine ⟨_, results_tmp rfl _ _ _, v1, rfl, h1.only hP (fun g hg e => ?_), ⟨?_, fun cs' t' fr' hh => ?_⟩, ?_⟩
    · rcases h3 with h3 | ⟨g', h3, h5⟩
      · have := hvlt g (by rw [← h3]; exact hg); omega
      · rw [h3] at hg; cases hg; omega
    · refine ((HO5.out.mono (S' := fun k => k = p ∨ v.ownBlock = some k ∨ z ≤ k) (fun _ _ h => h.elim)).trans h2.only (fun x hx e => ?_)).trans hP (fun x hx e => ?_) |>.mono (fun x hx e => ?_)
      · rcases e with e | e | e
        · exact .inl e
        · exact .inr (.inl e)
        · exact .inr (.inr (by omega))
      · exact .inr (.inr (by omega))
      · rcases e with e | e | e
        · exact .inl e
        · exact .inr e
        · omega
    · exact (hP.block p (by omega) (by omega)).trans (h2.blk _ _ _ ((HO5.out.block p (by omega) id).trans hh))
    · rcases h3 with h3 | ⟨g', h3, h5⟩
      · exact .inl h3
      · exact .inr ⟨g', h3, by omega⟩
end SI
end Go.Proofs.Ytnkbbjeepdjamaa
