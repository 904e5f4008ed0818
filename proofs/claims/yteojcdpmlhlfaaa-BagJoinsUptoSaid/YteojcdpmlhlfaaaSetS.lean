/- What the sets of bag.Set[string] do: one item put in, asked for; how many there are. Conditions: the set's row is the call's own and rises. -/
import Derived.Test.YteojcdpmlhlfaaaInsS
import Derived.Test.YteojcdpmlhlfaaaPut
namespace Go.Proofs.Yteojcdpmlhlfaaa
open Go.RowKit

def enS (x : ByteArray) : Value := .string x
theorem len_mapS (xs : List ByteArray) : (xs.map enS).length = xs.length := by simp
theorem one_enS (xs : List ByteArray) : ∀ u ∈ xs.map enS, u.oneCell' = true := by
  intro u hu
  obtain ⟨x, _, rfl⟩ := List.mem_map.1 hu
  rfl
theorem own_cellsS {w : World} {base n g cap : Nat} {xs : List ByteArray} (h : w.ownsRow base 9 1 (.slice (some ⟨g, 0, none⟩) n cap) n (xs.map enS)) : ∀ k y, xs[k]? = some y → w.cell? ⟨g, k, none⟩ = some (.string y) :=
  fun k y hy => own_cell h k _ (by simp [hy, enS])
structure IsSetS (w : World) (base : Nat) (v : Value) (xs : List ByteArray) : Prop where
  own : w.ownsRow base 9 1 v xs.length (xs.map enS)
  srt : Srt ltS xs
theorem IsSetS.only {S : Nat → Prop} {a b : World} {base : Nat} {v : Value} {xs : List ByteArray} (h : IsSetS a base v xs) (ho : Only S a b) (hn : ∀ g, v.ownBlock = some g → ¬ S g) : IsSetS b base v xs := ⟨own_only ho h.own hn, h.srt⟩

/-- BinarySearch of a set's row. -/
theorem findS (base : Nat) (v : Value) (xs : List ByteArray) (x : ByteArray) (w : World) (h : IsSetS w base v xs) (hn : xs.length ≤ 1048576) :
    Calls Try.prog 57 #[v, .string x] w fun e w' => e = .returned (.tuple #[.int .i64 (lbd ltS x xs), .bool (decide (x ∈ xs))]) ∧ w = w' := by
  rcases own_forms h.own with ⟨rfl, _, hx⟩ | ⟨g, cap, cur, rfl, _⟩
  · obtain rfl : xs = [] := List.map_eq_nil_iff.1 hx
    exact (bsS_nil x w).mono fun e w' ⟨h1, h2⟩ => ⟨by rw [h1]; simp [lbd], h2⟩
  · exact bsS g _ cap xs x w (by omega) rfl h.srt (own_cellsS h.own)

set_option maxHeartbeats 1000000 in
theorem addS (base p o : Nat) (v : Value) (xs : List ByteArray) (x : ByteArray) (w : World) (h : IsSetS w base v xs) (hn : xs.length ≤ 1048576) (cs : Array Value) (t : TypeId) (hp : w.heap[p]? = some (.cells cs t (0, 0))) (ho : cs[o]? = some v)
    (hne : v.ownBlock ≠ some p) (hbase : base ≤ w.heap.size) :
    Calls Try.prog 21 #[.pointer (some ⟨p, o, none⟩), .string x] w fun e w' =>
      ∃ v', e = .returned (.bool (!decide (x ∈ xs))) ∧ IsSetS w' base v' (ins ltS x xs) ∧ PutAt p o v' (fun k => v.ownBlock = some k) w w' ∧ (v'.ownBlock = v.ownBlock ∨ (∃ g, v'.ownBlock = some g ∧ w.heap.size ≤ g)) := by
  have hlt : p < w.heap.size := (Array.getElem?_eq_some_iff.1 hp).1
  have hc : w.cell? ⟨p, o, none⟩ = some v := by rw [cell_of_blk w p _ _ _ hp]; exact ho
  have hF := findS base v xs x w h hn
  have HFIND := Lib.hid hF; clear hF
  by_cases hx : x ∈ xs
  · have hd : decide (x ∈ xs) = true := by simpa using hx
    have hins : ins ltS x xs = xs := by unfold ins; rw [if_pos hx]
    have hput : PutAt p o v (fun k => v.ownBlock = some k) w w := ⟨Only.refl _ _, fun cs' t' fr' hh => by
      rw [hp] at hh
      injection hh with hh
      injection hh with h1 h2 h3
      subst h1 h2 h3
      rw [hp]
      congr 2
      apply Array.ext_getElem?
      intro k
      rw [Array.getElem?_setIfInBounds]
      split
      · rename_i e
        subst e
        rw [ho, if_pos (Array.getElem?_eq_some_iff.1 ho).1]
      · rfl⟩
    rw [hd, hins]
    have HD := Lib.hid hd; clear hd hx hins hp ho
    have HP := Lib.hid hput; clear hput
    go_enter Try.func21, Try.ntmps21
    go_wp2_with fail
    refine HFIND.out.mono ?_; rintro e w' ⟨rfl, rfl⟩
    rw [HD.out]
    go_wp2
    go_ret
    exact ⟨v, rfl, h, HP.out, .inl rfl⟩
  · have hd : decide (x ∈ xs) = false := by simpa using hx
    have hins : ins ltS x xs = xs.take (lbd ltS x xs) ++ x :: xs.drop (lbd ltS x xs) := by unfold ins; rw [if_neg hx]
    have hsrt : Srt ltS (ins ltS x xs) := srt_ins ordS x xs h.srt
    obtain ⟨W1, hW1⟩ : ∃ W1, W1 = w.alloc (.cells #[.string x] 9) := ⟨_, rfl⟩
    have ho1 : Only (fun _ => False) w W1 := by rw [hW1]; exact Only.alloc _ w _
    have hsz : W1.heap.size = w.heap.size + 1 := by rw [hW1]; simp
    have hown1 : W1.ownsRow base 9 1 v xs.length (xs.map enS) := own_only ho1 h.own (fun _ _ => id)
    have hvb : W1.heap[w.heap.size]? = some (.cells #[.string x] 9 (0, 0)) := by rw [hW1]; exact heap_alloc_new w _
    have hne2 : v.ownBlock ≠ some w.heap.size := fun e => by have := (own_lt h.own e).1; omega
    have hI := insertS base v xs.length (lbd ltS x xs) w.heap.size (xs.map enS) (.string x) W1 rfl (one_enS xs) hn (lbd_le x xs) hown1 hvb hne2 (by omega)
    rw [hW1] at hI
    have HI := Lib.hid hI; clear hI
    have HD := Lib.hid hd; clear hd
    have HO := Lib.hid ho; have HPP := Lib.hid hp
    have HINS := Lib.hid hins; have HS := Lib.hid hsrt
    clear hins hsrt hp ho hvb hown1 hne2
    have HW := Lib.hid hW1; have HO1 := Lib.hid ho1; have HSZ := Lib.hid hsz
    clear hW1 ho1 hsz
    go_enter Try.func21, Try.ntmps21
    go_wp2_with fail
    refine HFIND.out.mono ?_; rintro e w' ⟨rfl, rfl⟩
    rw [HD.out]
    go_wp2_with fail
    refine HI.out.mono ?_
    rintro e w2 ⟨v', rfl, hown2, honly2, hnew⟩
    rw [← HW.out] at honly2 hnew
    obtain ⟨g', cap', rfl⟩ : ∃ g' cap', v' = .slice (some ⟨g', 0, none⟩) (xs.length + 1) cap' := by
      rcases own_forms hown2 with ⟨_, h0, _⟩ | ⟨g', cap', _, e, _⟩
      · omega
      · exact ⟨g', cap', e⟩
    have hpv : ¬ (v.ownBlock = some p) := hne
    have honly : Only (fun k => v.ownBlock = some k) w w2 := (HO1.out.mono (fun _ _ h => h.elim)).trans honly2 (fun _ _ h => h)
    have hh2 : w2.heap[p]? = some (.cells cs t (0, 0)) := (honly.block p hlt hpv).trans HPP.out
    have hc2 : w2.cell? ⟨p, o, none⟩ = some v := by rw [cell_of_blk w2 p _ _ _ hh2]; exact HO.out
    have hf2 : w2.frozen? ⟨p, o, none⟩ = false := by simp [World.frozen?, hh2]
    have hput := PutAt.set (o := o) honly hpv (.slice (some ⟨g', 0, none⟩) (xs.length + 1) cap') hlt
    have hnew' : (Value.slice (some ⟨g', 0, none⟩) (xs.length + 1) cap').ownBlock = v.ownBlock ∨ (∃ g, (Value.slice (some ⟨g', 0, none⟩) (xs.length + 1) cap').ownBlock = some g ∧ w.heap.size ≤ g) := by
      rcases hnew with e | e
      · exact .inl e
      · exact .inr ⟨_, e, by have := HSZ.out; omega⟩
    have hset : IsSetS (w2.setCell ⟨p, o, none⟩ (.slice (some ⟨g', 0, none⟩) (xs.length + 1) cap')) base (.slice (some ⟨g', 0, none⟩) (xs.length + 1) cap') (ins ltS x xs) := by
      refine ⟨?_, HS.out⟩
      have e1 : (ins ltS x xs).map enS = (xs.map enS).take (lbd ltS x xs) ++ Value.string x :: (xs.map enS).drop (lbd ltS x xs) := by
        rw [HINS.out]; simp [List.map_take, List.map_drop, enS]
      have e2 : (ins ltS x xs).length = xs.length + 1 := by rw [length_ins, if_neg hx]
      rw [e1, e2]
      refine own_only (Only.setCell w2 ⟨p, o, none⟩ _) hown2 (fun g hg e => ?_)
      subst e
      rcases hnew' with k | ⟨g1, k, hk⟩
      · exact hpv (by rw [← k]; exact hg)
      · rw [k] at hg; injection hg with hg; omega
    have HPUT := Lib.hid hput; have HSET := Lib.hid hset; have HNEW := Lib.hid hnew'
    clear hput hset hnew' hnew hown2 honly2 honly hh2
    go_wp2
    go_ret
    exact ⟨_, by rw [HD.out]; rfl, HSET.out, HPUT.out, HNEW.out⟩

theorem box_newS (w : World) (v : Value) (t : TypeId) : Below w.heap.size w (w.alloc (.cells #[v] t)) := (Below.refl _ _).alloc (Nat.le_refl _) _
theorem hasS (base : Nat) (v : Value) (xs : List ByteArray) (x : ByteArray) (w : World) (h : IsSetS w base v xs) (hn : xs.length ≤ 1048576) :
    Calls Try.prog 25 #[.agg #[v], .string x] w fun e w' => e = .returned (.bool (decide (x ∈ xs))) ∧ Below w.heap.size w w' := by
  have h1 : IsSetS (w.alloc (.cells #[v] 47)) base v xs := h.only (Only.alloc (fun _ => False) _ _) (fun _ _ => id)
  have hF := findS base v xs x _ h1 hn
  have HF := Lib.hid hF; clear hF
  go_enter Try.func25, Try.ntmps25
  go_wp2_with fail
  refine HF.out.mono ?_; rintro e w' ⟨rfl, rfl⟩
  go_wp2
  go_ret
  exact ⟨rfl, box_newS w _ _⟩
theorem lenS (base : Nat) (v : Value) (xs : List ByteArray) (w : World) (h : IsSetS w base v xs) :
    Calls Try.prog 24 #[.agg #[v]] w fun e w' => e = .returned (.int .i64 xs.length) ∧ Below w.heap.size w w' := by
  rcases own_forms h.own with ⟨rfl, _, hx⟩ | ⟨g, cap, cur, rfl, _⟩
  · obtain rfl : xs = [] := List.map_eq_nil_iff.1 hx
    clear hx
    go_enter Try.func24, Try.ntmps24
    go_wp2
    go_ret
    exact ⟨rfl, box_newS w _ _⟩
  · go_enter Try.func24, Try.ntmps24
    go_wp2
    go_ret
    exact ⟨rfl, box_newS w _ _⟩
theorem eq_nilS : ∀ w : World, (binOp .eql 45 (.slice none 0 0) (.slice none 0 0)).run Try.prog w = .ok (.bool true) w := fun w => by kernel_rfl
theorem cloneS_nil (w : World) : Calls Try.prog 55 #[.slice none 0 0] w fun e w' => e = .returned (.slice none 0 0) ∧ w = w' := by
  have e1 := eq_nilS
  go_enter Try.func55, Try.ntmps55
  go_wp2
  go_ret
  exact ⟨rfl, rfl⟩
theorem cloneS_some (g n cap : Nat) (xs : List Value) (w : World) (hl : xs.length = n) (hn : n ≤ 1048576) (h1 : ∀ u ∈ xs, u.oneCell' = true) (hc : ∀ j u, xs[j]? = some u → w.cell? ⟨g, j, none⟩ = some u) :
    Calls Try.prog 55 #[.slice (some ⟨g, 0, none⟩) n cap] w fun e w' => ∃ v', e = .returned v' ∧ v' ≠ .slice none 0 0 ∧ w'.ownsRow w.heap.size 9 1 v' n xs ∧ Below w.heap.size w w' := by
  have hne := Lib.run_eql_slice_nil (P := Try.prog)
  have hown0 : (w.alloc (.cells #[] 9)).ownsRow w.heap.size 9 1 (.slice (some ⟨w.heap.size, 0, none⟩) 0 0) 0 [] :=
    ownsRow_of_cells (Nat.le_refl _) (heap_alloc_new w _) rfl (Nat.le_refl _) (by unfold maxLen; omega) rfl (fun j u hj => by simp at hj)
  have hc' : ∀ j u, xs[j]? = some u → (w.alloc (.cells #[] 9)).cell? ((⟨g, 0, none⟩ : Addr).add j) = some u := fun j u hj => by
    have h0 := hc j u hj
    have hg : g < w.heap.size := block_lt_of_cell h0
    rw [Addr.add_lit, Nat.zero_add, (Only.alloc (fun _ => False) w _).cell hg id]
    exact h0
  obtain ⟨i0, hi0, hz0, hz1, hz2⟩ := info_parts infoS
  have HL := Lib.hid hl; clear hl
  have h63 : 0 + n ≤ maxLen := by unfold maxLen; omega
  go_enter Try.func55, Try.ntmps55
  go_wp2_with (at_builtin; refine wpList_append_own_at _ rfl (.tmp 5) (.tmp 6) 45 rfl w.heap.size 9 i0 _ 1 16 Try.underlying45 hi0 hz0 hz1 hz2 rfl (by decide) (.slice (some ⟨w.heap.size, 0, none⟩) 0 0) 0 [] rfl hown0 ⟨g, 0, none⟩ n cap xs rfl (by have := HL.out; omega) hc' h1 h63 (by omega) (by simp) ?_; intro v' w1 k1 k2 k3 k4)
  go_ret
  refine ⟨v', rfl, fun e => by have := k3.1 e; simp at this, by simpa using k1, ?_⟩
  exact ((Below.refl _ _).alloc (Nat.le_refl _) _).grown k2 (by simp) (fun k hk => by simp only [Value.ownBlock, Option.some.injEq] at hk; omega)
theorem cloneS (base : Nat) (v : Value) (xs : List ByteArray) (w : World) (h : IsSetS w base v xs) (hn : xs.length ≤ 1048576) :
    Calls Try.prog 55 #[v] w fun e w' => ∃ v', e = .returned v' ∧ IsSetS w' w.heap.size v' xs ∧ Below w.heap.size w w' := by
  rcases own_forms h.own with ⟨rfl, _, hx⟩ | ⟨g, cap, cur, rfl, _⟩
  · obtain rfl : xs = [] := List.map_eq_nil_iff.1 hx
    refine (cloneS_nil w).mono ?_
    rintro e w' ⟨rfl, rfl⟩
    exact ⟨_, rfl, ⟨World.ownsRow_nil _ _ _ _, List.Pairwise.nil⟩, Below.refl _ _⟩
  · refine (cloneS_some g xs.length cap (xs.map enS) w (by simp) hn (one_enS xs) (fun j u hj => own_cell h.own j u hj)).mono ?_
    rintro e w' ⟨v', rfl, _, ho, hb⟩
    exact ⟨v', rfl, ⟨ho, h.srt⟩, hb⟩
theorem listS (base : Nat) (v : Value) (xs : List ByteArray) (w : World) (h : IsSetS w base v xs) (hn : xs.length ≤ 1048576) :
    Calls Try.prog 22 #[.agg #[v]] w fun e w' => ∃ v', e = .returned v' ∧ IsSetS w' w.heap.size v' xs ∧ Below w.heap.size w w' := by
  have h1 : IsSetS (w.alloc (.cells #[v] 47)) base v xs := h.only (Only.alloc (fun _ => False) _ _) (fun _ _ => id)
  have hC := cloneS base v xs _ h1 hn
  have HC := Lib.hid hC; clear hC
  go_enter Try.func22, Try.ntmps22
  go_wp2_with fail
  refine HC.out.mono ?_; rintro e w' ⟨v', rfl, hs, hb⟩
  go_wp2
  go_ret
  refine ⟨v', rfl, ⟨own_base hs.own (by simp), hs.srt⟩, ?_⟩
  exact (box_newS w v _).trans (hb.mono (by simp))

/-- Of: a set out of a row of items: what was put in, one by one. -/
def ofLS (l : List ByteArray) : List ByteArray := l.foldl (fun s x => ins ltS x s) []
theorem ofLS_snoc (l : List ByteArray) (x : ByteArray) : ofLS (l ++ [x]) = ins ltS x (ofLS l) := by simp [ofLS]
theorem ofLS_len (l : List ByteArray) : (ofLS l).length ≤ l.length := by
  have key : ∀ (l s : List ByteArray), (l.foldl (fun s x => ins ltS x s) s).length ≤ s.length + l.length := by
    intro l
    induction l with
    | nil => intro s; simp
    | cons x l ih =>
      intro s
      have h1 := ih (ins ltS x s)
      have h2 := length_ins (lt := ltS) x s
      simp only [List.foldl_cons, List.length_cons]
      split at h2 <;> omega
  simpa [ofLS] using key l []
set_option maxHeartbeats 1000000 in
theorem ofS_none (A : Option Addr) (c : Nat) (w : World) :
    Calls Try.prog 18 #[.slice A 0 c] w fun e w' => ∃ v', e = .returned (.agg #[v']) ∧ IsSetS w' w.heap.size v' [] ∧ Below w.heap.size w w' := by
  go_enter Try.func18, Try.ntmps18
  go_wp2
  go_loop [8] (fun i => i = .int .i64 0) (fun _ => 0)
  case atStart => rfl
  case round =>
    obtain rfl := hrel
    go_wp2
    refine bodyPost_ret (v := .agg #[.slice none 0 0]) (by simp [results, Try.results18, go_sem]) rfl ⟨_, rfl, ⟨World.ownsRow_nil _ _ _ _, List.Pairwise.nil⟩, ?_⟩
    first
      | exact (((Below.refl w.heap.size w).alloc (Nat.le_refl _) _).alloc (by simp) _).setCell (p := ⟨w.heap.size, 0, none⟩) (Nat.le_refl _) _
      | exact ((Below.refl w.heap.size w).alloc (Nat.le_refl _) _).alloc (by simp) _
set_option maxHeartbeats 1000000 in
theorem ofS_some (g o n c : Nat) (l : List ByteArray) (w : World) (hl : l.length = n) (hn : n ≤ 1048576) (hA : ∀ k y, l[k]? = some y → w.cell? ⟨g, o + k, none⟩ = some (.string y)) (hg : 0 < n) :
    Calls Try.prog 18 #[.slice (some ⟨g, o, none⟩) n c] w fun e w' => ∃ v', e = .returned (.agg #[v']) ∧ IsSetS w' w.heap.size v' (ofLS l) ∧ Below w.heap.size w w' := by
  have hglt : g < w.heap.size := block_lt_of_cell (hA 0 _ (List.getElem?_eq_getElem (by omega)))
  have HA := Lib.hid hA; clear hA
  have HL := Lib.hid hl; clear hl
  go_enter Try.func18, Try.ntmps18
  go_wp2
  obtain ⟨W1, hW1⟩ : ∃ W1, W1 = (w.alloc (.cells #[.slice none 0 0] 47)).alloc (.cells #[.slice none 0 0] 47) := ⟨_, rfl⟩
  have hB1 : Below w.heap.size w W1 := by rw [hW1]; exact ((Below.refl _ _).alloc (Nat.le_refl _) _).alloc (by simp) _
  have hp1 : W1.heap[w.heap.size + 1]? = some (.cells #[.slice none 0 0] 47 (0, 0)) := by
    rw [hW1]; have := heap_alloc_new (w.alloc (.cells #[.slice none 0 0] 47)) (.cells #[.slice none 0 0] 47); rwa [World.size_alloc] at this
  have hp0 : W1.heap[w.heap.size]? = some (.cells #[.slice none 0 0] 47 (0, 0)) := by
    rw [hW1]; exact (Below.heap_alloc _ _ _ (by simp)).trans (heap_alloc_new w _)
  rw [← hW1]
  clear hW1
  obtain ⟨B, HB⟩ : ∃ B, Hid (w.heap.size = B) := ⟨_, rfl⟩
  rw [HB.out] at hB1 hp1 hp0 hglt ⊢
  go_loopw [8] (fun i wr => ∃ (k : Nat) (v : Value), k ≤ n ∧ i = .int .i64 k ∧ Hid (IsSetS wr B v (ofLS (l.take k)) ∧ wr.heap[B + 1]? = some (.cells #[v] 47 (0, 0)) ∧ wr.heap[B]? = some (.cells #[.slice none 0 0] 47 (0, 0)) ∧ Below B w wr)) (fun i _ => n - (intOf i).toNat)
  case atStart => exact ⟨0, .slice none 0 0, by omega, rfl, ⟨World.ownsRow_nil _ _ _ _, List.Pairwise.nil⟩, hp1, hp0, hB1⟩
  case round =>
    obtain ⟨k, v, hk, rfl, hI⟩ := hrel
    have hI' := hI.out
    obtain ⟨hs, h1, h0, hb⟩ := hI'
    by_cases hlt : k < n
    · obtain ⟨y, hy⟩ : ∃ y, l[k]? = some y := ⟨_, List.getElem?_eq_getElem (by have := HL.out; omega)⟩
      have hc : wr.cell? ⟨g, o + k, none⟩ = some (.string y) := by rw [hb.cell (by exact hglt)]; exact HA.out k y hy
      have hlen : (ofLS (l.take k)).length ≤ 1048576 := by have := ofLS_len (l.take k); simp at this; omega
      have hadd := addS B (B + 1) 0 v _ y wr hs hlen _ _ h1 rfl (own_ne_blk hs.own h1 (by decide)) (by have := hb.size; have := HB.out; omega)
      have HADD := Lib.hid hadd; clear hadd
      have HY := Lib.hid hy
      have HH := Lib.hid (And.intro h1 h0)
      have HBB := Lib.hid hb
      have HS := Lib.hid hs
      clear hs h1 h0 hb hy hlen
      go_wp2_with fail
      refine HADD.out.mono ?_
      rintro e w2 ⟨v', rfl, hs2, hput, hnew⟩
      have hnext : Hid (IsSetS w2 B v' (ofLS (l.take (k + 1))) ∧ w2.heap[B + 1]? = some (.cells #[v'] 47 (0, 0)) ∧ w2.heap[B]? = some (.cells #[.slice none 0 0] 47 (0, 0)) ∧ Below B w w2) := by
        refine ⟨?_, ?_, ?_, ?_⟩
        · rw [take_snoc' l k y HY.out, ofLS_snoc]; exact hs2
        · exact hput.blk _ _ _ HH.out.1
        · refine (hput.only.block B (by have := HBB.out.size; have := HB.out; have := (Array.getElem?_eq_some_iff.1 HH.out.2).1; omega) ?_).trans HH.out.2
          rintro (h | h)
          · omega
          · exact own_ne_blk HS.out.own HH.out.2 (by decide) h
        · refine HBB.out.trans (hput.only.below (by have := HBB.out.size; have := HB.out; omega) ?_)
          rintro j hj (h | h)
          · omega
          · have := (own_lt HS.out.own h).2; omega
      clear hs2 hput hnew
      go_wp2
      go_roundw
      case rel => exact ⟨k + 1, v', by omega, by go_num, hnext⟩
      case measure => simp [intOf]; omega
    · obtain rfl : k = n := by omega
      have hcc : wr.cell? ⟨B + 1, 0, none⟩ = some v := by rw [cell_of_blk _ _ _ _ _ h1]; rfl
      have hc0 : wr.cell? ⟨B, 0, none⟩ = some (.slice none 0 0) := by rw [cell_of_blk _ _ _ _ _ h0]; rfl
      have hf0 : wr.frozen? ⟨B, 0, none⟩ = false := by simp [World.frozen?, h0]
      have hfin : IsSetS (wr.setCell ⟨B, 0, none⟩ v) B v (ofLS l) ∧ Below B w (wr.setCell ⟨B, 0, none⟩ v) ∧ (wr.setCell ⟨B, 0, none⟩ v).cell? ⟨B, 0, none⟩ = some v := by
        refine ⟨?_, hb.setCell (Nat.le_refl _) _, World.cell?_setCell_same' _ _ _ (by rw [hc0]; rfl)⟩
        rw [List.take_of_length_le (by have := HL.out; omega)] at hs
        exact hs.only (Only.setCell _ _ _) (fun g' hg' e => own_ne_blk hs.own h0 (by decide) (by rw [hg', e]))
      have hv1 := own_forms hs.own
      have HFIN := Lib.hid hfin
      clear hfin hs h1 h0 hb
      rcases hv1 with ⟨rfl, _, _⟩ | ⟨g', cap', _, rfl, _⟩
      all_goals
        go_wp2
        have hq := HFIN.out.2.2
        refine bodyPost_ret (by simp [results, Try.results18, go_sem, hq]; rfl) rfl ⟨_, rfl, by rw [HB.out]; exact HFIN.out.1, by rw [HB.out]; exact HFIN.out.2.1⟩
end Go.Proofs.Yteojcdpmlhlfaaa
