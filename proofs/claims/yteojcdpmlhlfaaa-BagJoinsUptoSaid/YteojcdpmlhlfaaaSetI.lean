/- What the sets of bag.Set[int] do: one item put in, asked for; how many there are. Conditions: the set's row is the call's own and rises. -/
import Derived.Test.YteojcdpmlhlfaaaInsI
import Derived.Test.YteojcdpmlhlfaaaPut
namespace Go.Proofs.Yteojcdpmlhlfaaa
open Go.RowKit

def enI (x : Int) : Value := .int .i64 x
theorem len_mapI (xs : List Int) : (xs.map enI).length = xs.length := by simp
theorem one_enI (xs : List Int) : ∀ u ∈ xs.map enI, u.oneCell' = true := by
  intro u hu
  obtain ⟨x, _, rfl⟩ := List.mem_map.1 hu
  rfl
theorem own_cellsI {w : World} {base n g cap : Nat} {xs : List Int} (h : w.ownsRow base 3 1 (.slice (some ⟨g, 0, none⟩) n cap) n (xs.map enI)) : ∀ k y, xs[k]? = some y → w.cell? ⟨g, k, none⟩ = some (.int .i64 y) :=
  fun k y hy => own_cell h k _ (by simp [hy, enI])
structure IsSetI (w : World) (base : Nat) (v : Value) (xs : List Int) : Prop where
  own : w.ownsRow base 3 1 v xs.length (xs.map enI)
  srt : Srt ltI xs
theorem IsSetI.only {S : Nat → Prop} {a b : World} {base : Nat} {v : Value} {xs : List Int} (h : IsSetI a base v xs) (ho : Only S a b) (hn : ∀ g, v.ownBlock = some g → ¬ S g) : IsSetI b base v xs := ⟨own_only ho h.own hn, h.srt⟩

/-- BinarySearch of a set's row. -/
theorem findI (base : Nat) (v : Value) (xs : List Int) (x : Int) (w : World) (h : IsSetI w base v xs) (hn : xs.length ≤ 1048576) :
    Calls Try.prog 64 #[v, .int .i64 x] w fun e w' => e = .returned (.tuple #[.int .i64 (lbd ltI x xs), .bool (decide (x ∈ xs))]) ∧ w = w' := by
  rcases own_forms h.own with ⟨rfl, _, hx⟩ | ⟨g, cap, cur, rfl, _⟩
  · obtain rfl : xs = [] := List.map_eq_nil_iff.1 hx
    exact (bsI_nil x w).mono fun e w' ⟨h1, h2⟩ => ⟨by rw [h1]; simp [lbd], h2⟩
  · exact bsI g _ cap xs x w (by omega) rfl h.srt (own_cellsI h.own)

set_option maxHeartbeats 1000000 in
theorem addI (base p o : Nat) (v : Value) (xs : List Int) (x : Int) (w : World) (h : IsSetI w base v xs) (hn : xs.length ≤ 1048576) (cs : Array Value) (t : TypeId) (hp : w.heap[p]? = some (.cells cs t (0, 0))) (ho : cs[o]? = some v)
    (hne : v.ownBlock ≠ some p) (hbase : base ≤ w.heap.size) :
    Calls Try.prog 35 #[.pointer (some ⟨p, o, none⟩), .int .i64 x] w fun e w' =>
      ∃ v', e = .returned (.bool (!decide (x ∈ xs))) ∧ IsSetI w' base v' (ins ltI x xs) ∧ PutAt p o v' (fun k => v.ownBlock = some k) w w' ∧ (v'.ownBlock = v.ownBlock ∨ (∃ g, v'.ownBlock = some g ∧ w.heap.size ≤ g)) := by
  have hlt : p < w.heap.size := (Array.getElem?_eq_some_iff.1 hp).1
  have hc : w.cell? ⟨p, o, none⟩ = some v := by rw [cell_of_blk w p _ _ _ hp]; exact ho
  have hF := findI base v xs x w h hn
  have HFIND := Lib.hid hF; clear hF
  by_cases hx : x ∈ xs
  · have hd : decide (x ∈ xs) = true := by simpa using hx
    have hins : ins ltI x xs = xs := by unfold ins; rw [if_pos hx]
    have hput : PutAt p o v (fun k => v.ownBlock = some k) w w := ⟨Only.refl _ _, fun cs' t' fr' hh => by
      rw [hp] at hh
      injection hh with hh
      injection hh with h1 h2 h3
      subst h1 h2 h3
      rw [hp]
      congr 2
      apply Array.ext_getElem?
      intro k
      rw [Array.getElem?_setIfInBounds]
      split
      · rename_i e
        subst e
        rw [ho, if_pos (Array.getElem?_eq_some_iff.1 ho).1]
      · rfl⟩
    rw [hd, hins]
    have HD := Lib.hid hd; clear hd hx hins hp ho
    have HP := Lib.hid hput; clear hput
    go_enter Try.func35, Try.ntmps35
    go_wp2_with fail
    refine HFIND.out.mono ?_; rintro e w' ⟨rfl, rfl⟩
    rw [HD.out]
    go_wp2
    go_ret
    exact ⟨v, rfl, h, HP.out, .inl rfl⟩
  · have hd : decide (x ∈ xs) = false := by simpa using hx
    have hins : ins ltI x xs = xs.take (lbd ltI x xs) ++ x :: xs.drop (lbd ltI x xs) := by unfold ins; rw [if_neg hx]
    have hsrt : Srt ltI (ins ltI x xs) := srt_ins ordI x xs h.srt
    obtain ⟨W1, hW1⟩ : ∃ W1, W1 = w.alloc (.cells #[.int .i64 x] 3) := ⟨_, rfl⟩
    have ho1 : Only (fun _ => False) w W1 := by rw [hW1]; exact Only.alloc _ w _
    have hsz : W1.heap.size = w.heap.size + 1 := by rw [hW1]; simp
    have hown1 : W1.ownsRow base 3 1 v xs.length (xs.map enI) := own_only ho1 h.own (fun _ _ => id)
    have hvb : W1.heap[w.heap.size]? = some (.cells #[.int .i64 x] 3 (0, 0)) := by rw [hW1]; exact heap_alloc_new w _
    have hne2 : v.ownBlock ≠ some w.heap.size := fun e => by have := (own_lt h.own e).1; omega
    have hI := insertI base v xs.length (lbd ltI x xs) w.heap.size (xs.map enI) (.int .i64 x) W1 rfl (one_enI xs) hn (lbd_le x xs) hown1 hvb hne2 (by omega)
    rw [hW1] at hI
    have HI := Lib.hid hI; clear hI
    have HD := Lib.hid hd; clear hd
    have HO := Lib.hid ho; have HPP := Lib.hid hp
    have HINS := Lib.hid hins; have HS := Lib.hid hsrt
    clear hins hsrt hp ho hvb hown1 hne2
    have HW := Lib.hid hW1; have HO1 := Lib.hid ho1; have HSZ := Lib.hid hsz
    clear hW1 ho1 hsz
    go_enter Try.func35, Try.ntmps35
    go_wp2_with fail
    refine HFIND.out.mono ?_; rintro e w' ⟨rfl, rfl⟩
    rw [HD.out]
    go_wp2_with fail
    refine HI.out.mono ?_
    rintro e w2 ⟨v', rfl, hown2, honly2, hnew⟩
    rw [← HW.out] at honly2 hnew
    obtain ⟨g', cap', rfl⟩ : ∃ g' cap', v' = .slice (some ⟨g', 0, none⟩) (xs.length + 1) cap' := by
      rcases own_forms hown2 with ⟨_, h0, _⟩ | ⟨g', cap', _, e, _⟩
      · omega
      · exact ⟨g', cap', e⟩
    have hpv : ¬ (v.ownBlock = some p) := hne
    have honly : Only (fun k => v.ownBlock = some k) w w2 := (HO1.out.mono (fun _ _ h => h.elim)).trans honly2 (fun _ _ h => h)
    have hh2 : w2.heap[p]? = some (.cells cs t (0, 0)) := (honly.block p hlt hpv).trans HPP.out
    have hc2 : w2.cell? ⟨p, o, none⟩ = some v := by rw [cell_of_blk w2 p _ _ _ hh2]; exact HO.out
    have hf2 : w2.frozen? ⟨p, o, none⟩ = false := by simp [World.frozen?, hh2]
    have hput := PutAt.set (o := o) honly hpv (.slice (some ⟨g', 0, none⟩) (xs.length + 1) cap') hlt
    have hnew' : (Value.slice (some ⟨g', 0, none⟩) (xs.length + 1) cap').ownBlock = v.ownBlock ∨ (∃ g, (Value.slice (some ⟨g', 0, none⟩) (xs.length + 1) cap').ownBlock = some g ∧ w.heap.size ≤ g) := by
      rcases hnew with e | e
      · exact .inl e
      · exact .inr ⟨_, e, by have := HSZ.out; omega⟩
    have hset : IsSetI (w2.setCell ⟨p, o, none⟩ (.slice (some ⟨g', 0, none⟩) (xs.length + 1) cap')) base (.slice (some ⟨g', 0, none⟩) (xs.length + 1) cap') (ins ltI x xs) := by
      refine ⟨?_, HS.out⟩
      have e1 : (ins ltI x xs).map enI = (xs.map enI).take (lbd ltI x xs) ++ Value.int .i64 x :: (xs.map enI).drop (lbd ltI x xs) := by
        rw [HINS.out]; simp [List.map_take, List.map_drop, enI]
      have e2 : (ins ltI x xs).length = xs.length + 1 := by rw [length_ins, if_neg hx]
      rw [e1, e2]
      refine own_only (Only.setCell w2 ⟨p, o, none⟩ _) hown2 (fun g hg e => ?_)
      subst e
      rcases hnew' with k | ⟨g1, k, hk⟩
      · exact hpv (by rw [← k]; exact hg)
      · rw [k] at hg; injection hg with hg; omega
    have HPUT := Lib.hid hput; have HSET := Lib.hid hset; have HNEW := Lib.hid hnew'
    clear hput hset hnew' hnew hown2 honly2 honly hh2
    go_wp2
    go_ret
    exact ⟨_, by rw [HD.out]; rfl, HSET.out, HPUT.out, HNEW.out⟩

theorem box_newI (w : World) (v : Value) (t : TypeId) : Below w.heap.size w (w.alloc (.cells #[v] t)) := (Below.refl _ _).alloc (Nat.le_refl _) _
theorem hasI (base : Nat) (v : Value) (xs : List Int) (x : Int) (w : World) (h : IsSetI w base v xs) (hn : xs.length ≤ 1048576) :
    Calls Try.prog 37 #[.agg #[v], .int .i64 x] w fun e w' => e = .returned (.bool (decide (x ∈ xs))) ∧ Below w.heap.size w w' := by
  have h1 : IsSetI (w.alloc (.cells #[v] 75)) base v xs := h.only (Only.alloc (fun _ => False) _ _) (fun _ _ => id)
  have hF := findI base v xs x _ h1 hn
  have HF := Lib.hid hF; clear hF
  go_enter Try.func37, Try.ntmps37
  go_wp2_with fail
  refine HF.out.mono ?_; rintro e w' ⟨rfl, rfl⟩
  go_wp2
  go_ret
  exact ⟨rfl, box_newI w _ _⟩
theorem lenI (base : Nat) (v : Value) (xs : List Int) (w : World) (h : IsSetI w base v xs) :
    Calls Try.prog 36 #[.agg #[v]] w fun e w' => e = .returned (.int .i64 xs.length) ∧ Below w.heap.size w w' := by
  rcases own_forms h.own with ⟨rfl, _, hx⟩ | ⟨g, cap, cur, rfl, _⟩
  · obtain rfl : xs = [] := List.map_eq_nil_iff.1 hx
    clear hx
    go_enter Try.func36, Try.ntmps36
    go_wp2
    go_ret
    exact ⟨rfl, box_newI w _ _⟩
  · go_enter Try.func36, Try.ntmps36
    go_wp2
    go_ret
    exact ⟨rfl, box_newI w _ _⟩
theorem eq_nilI : ∀ w : World, (binOp .eql 64 (.slice none 0 0) (.slice none 0 0)).run Try.prog w = .ok (.bool true) w := fun w => by kernel_rfl
theorem cloneI_nil (w : World) : Calls Try.prog 67 #[.slice none 0 0] w fun e w' => e = .returned (.slice none 0 0) ∧ w = w' := by
  have e1 := eq_nilI
  go_enter Try.func67, Try.ntmps67
  go_wp2
  go_ret
  exact ⟨rfl, rfl⟩
theorem cloneI_some (g n cap : Nat) (xs : List Value) (w : World) (hl : xs.length = n) (hn : n ≤ 1048576) (h1 : ∀ u ∈ xs, u.oneCell' = true) (hc : ∀ j u, xs[j]? = some u → w.cell? ⟨g, j, none⟩ = some u) :
    Calls Try.prog 67 #[.slice (some ⟨g, 0, none⟩) n cap] w fun e w' => ∃ v', e = .returned v' ∧ v' ≠ .slice none 0 0 ∧ w'.ownsRow w.heap.size 3 1 v' n xs ∧ Below w.heap.size w w' := by
  have hne := Lib.run_eql_slice_nil (P := Try.prog)
  have hown0 : (w.alloc (.cells #[] 3)).ownsRow w.heap.size 3 1 (.slice (some ⟨w.heap.size, 0, none⟩) 0 0) 0 [] :=
    ownsRow_of_cells (Nat.le_refl _) (heap_alloc_new w _) rfl (Nat.le_refl _) (by unfold maxLen; omega) rfl (fun j u hj => by simp at hj)
  have hc' : ∀ j u, xs[j]? = some u → (w.alloc (.cells #[] 3)).cell? ((⟨g, 0, none⟩ : Addr).add j) = some u := fun j u hj => by
    have h0 := hc j u hj
    have hg : g < w.heap.size := block_lt_of_cell h0
    rw [Addr.add_lit, Nat.zero_add, (Only.alloc (fun _ => False) w _).cell hg id]
    exact h0
  obtain ⟨i0, hi0, hz0, hz1, hz2⟩ := info_parts infoI
  have HL := Lib.hid hl; clear hl
  have h63 : 0 + n ≤ maxLen := by unfold maxLen; omega
  go_enter Try.func67, Try.ntmps67
  go_wp2_with (at_builtin; refine wpList_append_own_at _ rfl (.tmp 5) (.tmp 6) 64 rfl w.heap.size 3 i0 _ 1 8 Try.underlying64 hi0 hz0 hz1 hz2 rfl (by decide) (.slice (some ⟨w.heap.size, 0, none⟩) 0 0) 0 [] rfl hown0 ⟨g, 0, none⟩ n cap xs rfl (by have := HL.out; omega) hc' h1 h63 (by omega) (by simp) ?_; intro v' w1 k1 k2 k3 k4)
  go_ret
  refine ⟨v', rfl, fun e => by have := k3.1 e; simp at this, by simpa using k1, ?_⟩
  exact ((Below.refl _ _).alloc (Nat.le_refl _) _).grown k2 (by simp) (fun k hk => by simp only [Value.ownBlock, Option.some.injEq] at hk; omega)
theorem cloneI (base : Nat) (v : Value) (xs : List Int) (w : World) (h : IsSetI w base v xs) (hn : xs.length ≤ 1048576) :
    Calls Try.prog 67 #[v] w fun e w' => ∃ v', e = .returned v' ∧ IsSetI w' w.heap.size v' xs ∧ Below w.heap.size w w' := by
  rcases own_forms h.own with ⟨rfl, _, hx⟩ | ⟨g, cap, cur, rfl, _⟩
  · obtain rfl : xs = [] := List.map_eq_nil_iff.1 hx
    refine (cloneI_nil w).mono ?_
    rintro e w' ⟨rfl, rfl⟩
    exact ⟨_, rfl, ⟨World.ownsRow_nil _ _ _ _, List.Pairwise.nil⟩, Below.refl _ _⟩
  · refine (cloneI_some g xs.length cap (xs.map enI) w (by simp) hn (one_enI xs) (fun j u hj => own_cell h.own j u hj)).mono ?_
    rintro e w' ⟨v', rfl, _, ho, hb⟩
    exact ⟨v', rfl, ⟨ho, h.srt⟩, hb⟩
theorem listI (base : Nat) (v : Value) (xs : List Int) (w : World) (h : IsSetI w base v xs) (hn : xs.length ≤ 1048576) :
    Calls Try.prog 38 #[.agg #[v]] w fun e w' => ∃ v', e = .returned v' ∧ IsSetI w' w.heap.size v' xs ∧ Below w.heap.size w w' := by
  have h1 : IsSetI (w.alloc (.cells #[v] 75)) base v xs := h.only (Only.alloc (fun _ => False) _ _) (fun _ _ => id)
  have hC := cloneI base v xs _ h1 hn
  have HC := Lib.hid hC; clear hC
  go_enter Try.func38, Try.ntmps38
  go_wp2_with fail
  refine HC.out.mono ?_; rintro e w' ⟨v', rfl, hs, hb⟩
  go_wp2
  go_ret
  refine ⟨v', rfl, ⟨own_base hs.own (by simp), hs.srt⟩, ?_⟩
  exact (box_newI w v _).trans (hb.mono (by simp))

/-- Of: a set out of a row of items: what was put in, one by one. -/
def ofLI (l : List Int) : List Int := l.foldl (fun s x => ins ltI x s) []
theorem ofLI_snoc (l : List Int) (x : Int) : ofLI (l ++ [x]) = ins ltI x (ofLI l) := by simp [ofLI]
theorem ofLI_len (l : List Int) : (ofLI l).length ≤ l.length := by
  have key : ∀ (l s : List Int), (l.foldl (fun s x => ins ltI x s) s).length ≤ s.length + l.length := by
    intro l
    induction l with
    | nil => intro s; simp
    | cons x l ih =>
      intro s
      have h1 := ih (ins ltI x s)
      have h2 := length_ins (lt := ltI) x s
      simp only [List.foldl_cons, List.length_cons]
      split at h2 <;> omega
  simpa [ofLI] using key l []
set_option maxHeartbeats 1000000 in
theorem ofI_none (A : Option Addr) (c : Nat) (w : World) :
    Calls Try.prog 50 #[.slice A 0 c] w fun e w' => ∃ v', e = .returned (.agg #[v']) ∧ IsSetI w' w.heap.size v' [] ∧ Below w.heap.size w w' := by
  go_enter Try.func50, Try.ntmps50
  go_wp2
  go_loop [8] (fun i => i = .int .i64 0) (fun _ => 0)
  case atStart => rfl
  case round =>
    obtain rfl := hrel
    go_wp2
    refine bodyPost_ret (v := .agg #[.slice none 0 0]) (by simp [results, Try.results50, go_sem]) rfl ⟨_, rfl, ⟨World.ownsRow_nil _ _ _ _, List.Pairwise.nil⟩, ?_⟩
    first
      | exact (((Below.refl w.heap.size w).alloc (Nat.le_refl _) _).alloc (by simp) _).setCell (p := ⟨w.heap.size, 0, none⟩) (Nat.le_refl _) _
      | exact ((Below.refl w.heap.size w).alloc (Nat.le_refl _) _).alloc (by simp) _
set_option maxHeartbeats 1000000 in
theorem ofI_some (g o n c : Nat) (l : List Int) (w : World) (hl : l.length = n) (hn : n ≤ 1048576) (hA : ∀ k y, l[k]? = some y → w.cell? ⟨g, o + k, none⟩ = some (.int .i64 y)) (hg : 0 < n) :
    Calls Try.prog 50 #[.slice (some ⟨g, o, none⟩) n c] w fun e w' => ∃ v', e = .returned (.agg #[v']) ∧ IsSetI w' w.heap.size v' (ofLI l) ∧ Below w.heap.size w w' := by
  have hglt : g < w.heap.size := block_lt_of_cell (hA 0 _ (List.getElem?_eq_getElem (by omega)))
  have HA := Lib.hid hA; clear hA
  have HL := Lib.hid hl; clear hl
  go_enter Try.func50, Try.ntmps50
  go_wp2
  obtain ⟨W1, hW1⟩ : ∃ W1, W1 = (w.alloc (.cells #[.slice none 0 0] 75)).alloc (.cells #[.slice none 0 0] 75) := ⟨_, rfl⟩
  have hB1 : Below w.heap.size w W1 := by rw [hW1]; exact ((Below.refl _ _).alloc (Nat.le_refl _) _).alloc (by simp) _
  have hp1 : W1.heap[w.heap.size + 1]? = some (.cells #[.slice none 0 0] 75 (0, 0)) := by
    rw [hW1]; have := heap_alloc_new (w.alloc (.cells #[.slice none 0 0] 75)) (.cells #[.slice none 0 0] 75); rwa [World.size_alloc] at this
  have hp0 : W1.heap[w.heap.size]? = some (.cells #[.slice none 0 0] 75 (0, 0)) := by
    rw [hW1]; exact (Below.heap_alloc _ _ _ (by simp)).trans (heap_alloc_new w _)
  rw [← hW1]
  clear hW1
  obtain ⟨B, HB⟩ : ∃ B, Hid (w.heap.size = B) := ⟨_, rfl⟩
  rw [HB.out] at hB1 hp1 hp0 hglt ⊢
  go_loopw [8] (fun i wr => ∃ (k : Nat) (v : Value), k ≤ n ∧ i = .int .i64 k ∧ Hid (IsSetI wr B v (ofLI (l.take k)) ∧ wr.heap[B + 1]? = some (.cells #[v] 75 (0, 0)) ∧ wr.heap[B]? = some (.cells #[.slice none 0 0] 75 (0, 0)) ∧ Below B w wr)) (fun i _ => n - (intOf i).toNat)
  case atStart => exact ⟨0, .slice none 0 0, by omega, rfl, ⟨World.ownsRow_nil _ _ _ _, List.Pairwise.nil⟩, hp1, hp0, hB1⟩
  case round =>
    obtain ⟨k, v, hk, rfl, hI⟩ := hrel
    have hI' := hI.out
    obtain ⟨hs, h1, h0, hb⟩ := hI'
    by_cases hlt : k < n
    · obtain ⟨y, hy⟩ : ∃ y, l[k]? = some y := ⟨_, List.getElem?_eq_getElem (by have := HL.out; omega)⟩
      have hc : wr.cell? ⟨g, o + k, none⟩ = some (.int .i64 y) := by rw [hb.cell (by exact hglt)]; exact HA.out k y hy
      have hlen : (ofLI (l.take k)).length ≤ 1048576 := by have := ofLI_len (l.take k); simp at this; omega
      have hadd := addI B (B + 1) 0 v _ y wr hs hlen _ _ h1 rfl (own_ne_blk hs.own h1 (by decide)) (by have := hb.size; have := HB.out; omega)
      have HADD := Lib.hid hadd; clear hadd
      have HY := Lib.hid hy
      have HH := Lib.hid (And.intro h1 h0)
      have HBB := Lib.hid hb
      have HS := Lib.hid hs
      clear hs h1 h0 hb hy hlen
      go_wp2_with fail
      refine HADD.out.mono ?_
      rintro e w2 ⟨v', rfl, hs2, hput, hnew⟩
      have hnext : Hid (IsSetI w2 B v' (ofLI (l.take (k + 1))) ∧ w2.heap[B + 1]? = some (.cells #[v'] 75 (0, 0)) ∧ w2.heap[B]? = some (.cells #[.slice none 0 0] 75 (0, 0)) ∧ Below B w w2) := by
        refine ⟨?_, ?_, ?_, ?_⟩
        · rw [take_snoc' l k y HY.out, ofLI_snoc]; exact hs2
        · exact hput.blk _ _ _ HH.out.1
        · refine (hput.only.block B (by have := HBB.out.size; have := HB.out; have := (Array.getElem?_eq_some_iff.1 HH.out.2).1; omega) ?_).trans HH.out.2
          rintro (h | h)
          · omega
          · exact own_ne_blk HS.out.own HH.out.2 (by decide) h
        · refine HBB.out.trans (hput.only.below (by have := HBB.out.size; have := HB.out; omega) ?_)
          rintro j hj (h | h)
          · omega
          · have := (own_lt HS.out.own h).2; omega
      clear hs2 hput hnew
      go_wp2
      go_roundw
      case rel => exact ⟨k + 1, v', by omega, by go_num, hnext⟩
      case measure => simp [intOf]; omega
    · obtain rfl : k = n := by omega
      have hcc : wr.cell? ⟨B + 1, 0, none⟩ = some v := by rw [cell_of_blk _ _ _ _ _ h1]; rfl
      have hc0 : wr.cell? ⟨B, 0, none⟩ = some (.slice none 0 0) := by rw [cell_of_blk _ _ _ _ _ h0]; rfl
      have hf0 : wr.frozen? ⟨B, 0, none⟩ = false := by simp [World.frozen?, h0]
      have hfin : IsSetI (wr.setCell ⟨B, 0, none⟩ v) B v (ofLI l) ∧ Below B w (wr.setCell ⟨B, 0, none⟩ v) ∧ (wr.setCell ⟨B, 0, none⟩ v).cell? ⟨B, 0, none⟩ = some v := by
        refine ⟨?_, hb.setCell (Nat.le_refl _) _, World.cell?_setCell_same' _ _ _ (by rw [hc0]; rfl)⟩
        rw [List.take_of_length_le (by have := HL.out; omega)] at hs
        exact hs.only (Only.setCell _ _ _) (fun g' hg' e => own_ne_blk hs.own h0 (by decide) (by rw [hg', e]))
      have hv1 := own_forms hs.own
      have HFIN := Lib.hid hfin
      clear hfin hs h1 h0 hb
      rcases hv1 with ⟨rfl, _, _⟩ | ⟨g', cap', _, rfl, _⟩
      all_goals
        go_wp2
        have hq := HFIN.out.2.2
        refine bodyPost_ret (by simp [results, Try.results50, go_sem, hq]; rfl) rfl ⟨_, rfl, by rw [HB.out]; exact HFIN.out.1, by rw [HB.out]; exact HFIN.out.2.1⟩
end Go.Proofs.Yteojcdpmlhlfaaa
