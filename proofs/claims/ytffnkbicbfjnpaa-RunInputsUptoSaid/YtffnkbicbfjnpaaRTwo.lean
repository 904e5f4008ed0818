/- 'x, y := f(..), g(..)' where x and y lie in memory: two calls, two new blocks, two stores, in whatever order. Conditions: the calls make memory alone; what they give stays. -/
import Derived.Test.YtffnkbicbfjnpaaRegZ
import Derived.Test.YtffnkbicbfjnpaaMem
namespace Go.Proofs.Ytffnkbicbfjnpaa
open Go.RowKit
section
variable {P : Program} {ops : Array Oper} {Q : Exit → Act → World → Prop} {S : World → Prop}
/-- The six operations: two calls, two allocs, two stores; each waits for what is named, and for operations that have come up already. -/
structure Six where
  i1 : Nat
  i2 : Nat
  j1 : Nat
  j2 : Nat
  s1 : Nat
  s2 : Nat
def Six.list (x : Six) : List Nat := [x.i1, x.i2, x.j1, x.j2, x.s1, x.s2]
def onlyWaits (ops : Array Oper) (x : Six) (i : Nat) (l : List Nat) : Bool := match ops[i]? with
  | some o => o.after.all fun e => !Region.binds .any e || !x.list.contains e.on || l.contains e.on
  | none => false
def Six.ok (x : Six) (ops : Array Oper) : Bool := decide x.list.Nodup && x.list.all (fun i => decide (i < ops.size)) && onlyWaits ops x x.i1 [] && onlyWaits ops x x.i2 [x.i1] && onlyWaits ops x x.j1 [] && onlyWaits ops x x.j2 [] && onlyWaits ops x x.s1 [x.i1, x.i2, x.j1, x.j2] &&
  onlyWaits ops x x.s2 [x.i1, x.i2, x.j1, x.j2, x.s1] && waitsB .any ops x.s1 x.i1 && waitsB .any ops x.s1 x.i2 && waitsB .any ops x.s1 x.j1 && waitsB .any ops x.s1 x.j2 && waitsB .any ops x.s2 x.s1
def isL (listed : Array Bool) (i : Nat) : Prop := listed.getD i false = true
theorem isL_set {listed : Array Bool} {i k : Nat} (hi : i < listed.size) : isL (listed.setIfInBounds i true) k ↔ k = i ∨ isL listed k := by
  unfold isL
  simp only [Array.getD_eq_getD_getElem?, Array.getElem?_setIfInBounds]
  by_cases h : i = k
  · subst h; simp [hi]
  · simp [h, show ¬ k = i from fun e => h e.symm]
theorem waits_listed {i j : Nat} {listed : Array Bool} (h : waitsB .any ops i j = true) (hr : i ∈ Region.ready .any ops listed) : isL listed j := by
  obtain ⟨_, o, ho, hall⟩ := mem_ready.1 hr
  unfold waitsB at h
  rw [ho] at h
  simp only [Array.any_eq_true, Bool.and_eq_true, beq_iff_eq] at h
  obtain ⟨k, hk, hb, he⟩ := h
  have := hall _ (Array.getElem_mem hk) hb
  rw [he] at this
  exact this
theorem ready_of {x : Six} {i : Nat} {l : List Nat} {listed : Array Bool} (h : onlyWaits ops x i l = true) (hi : i < listed.size) (hn : ¬ isL listed i) (hl : ∀ k ∈ l, isL listed k) (hq : ∀ k, k < ops.size → k ∉ x.list → isL listed k) (_ : listed.size = ops.size) (hb : ∀ (o : Oper), ops[i]? = some o → ∀ e ∈ o.after, e.on < ops.size) : i ∈ Region.ready .any ops listed := by
  refine mem_ready.2 ⟨?_, ?_⟩
  · unfold isL at hn
    simp only [Array.getD_eq_getD_getElem?, Array.getElem?_eq_getElem hi, Option.getD_some] at hn ⊢
    simpa using hn
  · unfold onlyWaits at h
    cases ho : ops[i]? with
    | none => rw [ho] at h; cases h
    | some o =>
      rw [ho] at h
      refine ⟨o, rfl, fun e he hbind => ?_⟩
      simp only [Array.all_eq_true_iff_forall_mem] at h
      have h1 := h e he
      simp only [hbind, Bool.not_true, Bool.false_or, Bool.or_eq_true, Bool.not_eq_true', List.contains_eq_mem, decide_eq_true_eq, decide_eq_false_iff_not] at h1
      rcases h1 with h1 | h1
      · exact hq _ (hb o ho e he) h1
      · exact hl _ h1
/-- What has been done so far: no store yet. -/
structure TwoSt (x : Six) (canon : Value → Value → Value → Value → Act) (S : World → Prop) (B : Nat) (T : TypeId) (zero : Array Value) (R1 R2 : Value → World → Prop) (n : Nat) (listed : Array Bool) (a : Act) (w : World) : Prop where
  size : listed.size = n
  quiet : ∀ k, k < n → k ∉ x.list → isL listed k
  n1 : ¬ isL listed x.s1
  n2 : ¬ isL listed x.s2
  hS : S w
  st : ∃ v1 v2 p1 p2, a = canon v1 v2 p1 p2 ∧ (isL listed x.i1 → R1 v1 w) ∧ (isL listed x.i2 → R2 v2 w) ∧
    (isL listed x.j1 → ∃ g, p1 = .pointer (some ⟨g, 0, none⟩) ∧ B ≤ g ∧ w.heap[g]? = some (.cells zero T (0, 0))) ∧
    (isL listed x.j2 → ∃ g, p2 = .pointer (some ⟨g, 0, none⟩) ∧ B ≤ g ∧ w.heap[g]? = some (.cells zero T (0, 0))) ∧
    (isL listed x.j1 → isL listed x.j2 → p1 ≠ p2)
theorem lt_blk {w : World} {g : Nat} {o : Obj} (h : w.heap[g]? = some o) : g < w.heap.size := (Array.getElem?_eq_some_iff.1 h).1
def cntL (listed : Array Bool) (l : List Nat) : Nat := (l.filter (fun i => !listed.getD i false)).length
theorem cnt_set {listed : Array Bool} {i : Nat} (hi : i < listed.size) (hn : ¬ isL listed i) : ∀ l : List Nat, (cntL (listed.setIfInBounds i true) l ≤ cntL listed l) ∧ (i ∈ l → cntL (listed.setIfInBounds i true) l + 1 ≤ cntL listed l)
  | [] => ⟨Nat.le_refl _, fun h => by cases h⟩
  | y :: l => by
    obtain ⟨h1, h2⟩ := cnt_set hi hn l
    have e2 : listed.getD i false = false := by
      unfold isL at hn
      cases h : listed.getD i false with
      | false => rfl
      | true => exact absurd h hn
    have eqv : y ≠ i → (listed.setIfInBounds i true).getD y false = listed.getD y false := fun hk => by
      simp only [Array.getD_eq_getD_getElem?, Array.getElem?_setIfInBounds, if_neg (show ¬ i = y from fun e => hk e.symm)]
    unfold cntL at h1 h2 ⊢
    by_cases hyi : y = i
    · subst hyi
      have e1 : (listed.setIfInBounds y true).getD y false = true := (isL_set hi).2 (.inl rfl)
      rw [List.filter_cons, List.filter_cons, e1, e2]
      simp only [Bool.not_true, Bool.not_false, Bool.false_eq_true, if_false, if_true, List.length_cons]
      exact ⟨by omega, fun _ => by omega⟩
    · rw [List.filter_cons, List.filter_cons, eqv hyi]
      refine ⟨?_, fun h => ?_⟩
      · split <;> (try simp only [List.length_cons]) <;> omega
      · have := h2 ((List.mem_cons.1 h).resolve_left (fun e => hyi e.symm))
        split <;> (try simp only [List.length_cons]) <;> omega
theorem ready_lt {i : Nat} {listed : Array Bool} (hi : i ∈ Region.ready .any ops listed) (hsz : listed.size = ops.size) : i < ops.size ∧ ¬ isL listed i := by
  obtain ⟨hun, o, ho, _⟩ := mem_ready.1 hi
  have hil : i < ops.size := (Array.getElem?_eq_some_iff.1 ho).1
  refine ⟨hil, ?_⟩
  unfold isL
  simp only [Array.getD_eq_getD_getElem?, Array.getElem?_eq_getElem (show i < listed.size by omega), Option.getD_some] at hun ⊢
  rw [hun]; simp
theorem ready_nil {listed : Array Bool} (hsz : listed.size = ops.size) (h : ∀ k, k < ops.size → isL listed k) : Region.ready .any ops listed = [] := List.eq_nil_iff_forall_not_mem.2 fun i hi => by
  obtain ⟨h1, h2⟩ := ready_lt hi hsz
  exact h2 (h i h1)
theorem two_inv {x : Six} {canon : Value → Value → Value → Value → Act} {B : Nat} {T : TypeId} {zero : Array Value} {cellsOf : Value → Array Value} {R1 R2 : Value → World → Prop}
    (hok : x.ok ops = true) (hbd : ∀ i ∈ x.list, ∀ o, ops[i]? = some o → ∀ e ∈ o.after, e.on < ops.size)
    (hS1 : ∀ w w', S w → Below w.heap.size w w' → S w') (hS2 : ∀ w w' g, S w → B ≤ g → Only (fun k => k = g) w w' → S w') (hB : ∀ w, S w → B ≤ w.heap.size)
    (hR1 : ∀ v w w', R1 v w → Below w.heap.size w w' → R1 v w') (hR1s : ∀ v w w' g cs, R1 v w → w.heap[g]? = some (.cells cs T (0, 0)) → Only (fun k => k = g) w w' → R1 v w')
    (hR2 : ∀ v w w', R2 v w → Below w.heap.size w w' → R2 v w') (hR2s : ∀ v w w' g cs, R2 v w → w.heap[g]? = some (.cells cs T (0, 0)) → Only (fun k => k = g) w w' → R2 v w')
    (c1 : ∀ v1 v2 p1 p2 w K, S w → (∀ v w', R1 v w' → Below w.heap.size w w' → K (canon v v2 p1 p2) w') → wpOp P ops Q x.i1 K (canon v1 v2 p1 p2) w)
    (c2 : ∀ v1 v2 p1 p2 w K, S w → (∀ v w', R2 v w' → Below w.heap.size w w' → K (canon v1 v p1 p2) w') → wpOp P ops Q x.i2 K (canon v1 v2 p1 p2) w)
    (a1 : ∀ v1 v2 p1 p2 w K, S w → K (canon v1 v2 (.pointer (some ⟨w.heap.size, 0, none⟩)) p2) (w.alloc (.cells zero T)) → wpOp P ops Q x.j1 K (canon v1 v2 p1 p2) w)
    (a2 : ∀ v1 v2 p1 p2 w K, S w → K (canon v1 v2 p1 (.pointer (some ⟨w.heap.size, 0, none⟩))) (w.alloc (.cells zero T)) → wpOp P ops Q x.j2 K (canon v1 v2 p1 p2) w)
    (t1 : ∀ v1 v2 g p2 w K, S w → R1 v1 w → w.heap[g]? = some (.cells zero T (0, 0)) → (∀ w', w'.heap[g]? = some (.cells (cellsOf v1) T (0, 0)) → Only (fun k => k = g) w w' → K (canon v1 v2 (.pointer (some ⟨g, 0, none⟩)) p2) w') → wpOp P ops Q x.s1 K (canon v1 v2 (.pointer (some ⟨g, 0, none⟩)) p2) w)
    (t2 : ∀ v1 v2 p1 g w K, S w → R2 v2 w → w.heap[g]? = some (.cells zero T (0, 0)) → (∀ w', w'.heap[g]? = some (.cells (cellsOf v2) T (0, 0)) → Only (fun k => k = g) w w' → K (canon v1 v2 p1 (.pointer (some ⟨g, 0, none⟩))) w') → wpOp P ops Q x.s2 K (canon v1 v2 p1 (.pointer (some ⟨g, 0, none⟩))) w)
    (hfin : ∀ v1 v2 g1 g2 w, S w → R1 v1 w → R2 v2 w → B ≤ g1 → B ≤ g2 → g1 ≠ g2 → w.heap[g1]? = some (.cells (cellsOf v1) T (0, 0)) → w.heap[g2]? = some (.cells (cellsOf v2) T (0, 0)) → Q .normal (canon v1 v2 (.pointer (some ⟨g1, 0, none⟩)) (.pointer (some ⟨g2, 0, none⟩))) w) :
    ∀ (fuel : Nat) (listed : Array Bool) (a : Act) (w : World), cntL listed x.list ≤ fuel → TwoSt x canon S B T zero R1 R2 ops.size listed a w → wpAnyH P .any ops Q S fuel listed a w := by
  simp only [Six.ok, Bool.and_eq_true, decide_eq_true_eq, List.all_eq_true] at hok
  obtain ⟨⟨⟨⟨⟨⟨⟨⟨⟨⟨⟨⟨hnd, hlt⟩, w1⟩, w2⟩, w3⟩, w4⟩, w5⟩, w6⟩, e1⟩, e2⟩, e3⟩, e4⟩, e5⟩ := hok
  have hnd' := hnd
  simp only [Six.list, List.nodup_cons, List.mem_cons, List.not_mem_nil, or_false, not_or, not_false_eq_true, List.nodup_nil, and_true] at hnd'
  obtain ⟨⟨n12, n13, n14, n15, n16⟩, ⟨n23, n24, n25, n26⟩, ⟨n34, n35, n36⟩, ⟨n45, n46⟩, n56⟩ := hnd'
  have m1 : x.i1 ∈ x.list := by simp [Six.list]
  have m2 : x.i2 ∈ x.list := by simp [Six.list]
  have m3 : x.j1 ∈ x.list := by simp [Six.list]
  have m4 : x.j2 ∈ x.list := by simp [Six.list]
  have m5 : x.s1 ∈ x.list := by simp [Six.list]
  have m6 : x.s2 ∈ x.list := by simp [Six.list]
  -- something comes up as long as not all has come up
  have all : ∀ (listed : Array Bool), listed.size = ops.size → (∀ k, k < ops.size → k ∉ x.list → isL listed k) → Region.ready .any ops listed = [] → ∀ i ∈ x.list, isL listed i := by
    intro listed hsz hq hr
    have go : ∀ i ∈ x.list, ∀ l, onlyWaits ops x i l = true → (∀ k ∈ l, isL listed k) → isL listed i := fun i hi l hw hl => by
      apply Classical.byContradiction
      intro hn
      have := ready_of hw (by rw [hsz]; exact hlt i hi) hn hl hq hsz (hbd i hi)
      rw [hr] at this; cases this
    have l1 := go _ m1 _ w1 (by simp)
    have l2 := go _ m2 _ w2 (by simp [l1])
    have l3 := go _ m3 _ w3 (by simp)
    have l4 := go _ m4 _ w4 (by simp)
    have l5 := go _ m5 _ w5 (by simp [l1, l2, l3, l4])
    have l6 := go _ m6 _ w6 (by simp [l1, l2, l3, l4, l5])
    intro i hi
    simp only [Six.list, List.mem_cons, List.not_mem_nil, or_false] at hi
    rcases hi with rfl | rfl | rfl | rfl | rfl | rfl <;> assumption
  intro fuel
  induction fuel with
  | zero =>
    intro listed a w hf h
    have hz : x.list.filter (fun i => !listed.getD i false) = [] := List.eq_nil_of_length_eq_zero (by unfold cntL at hf; omega)
    have := List.filter_eq_nil_iff.1 hz _ m5
    exact absurd (show isL listed x.s1 by unfold isL; simpa using this) h.n1
  | succ fuel ih =>
    intro listed a w hf h
    refine ⟨fun hr => absurd (all listed h.size h.quiet hr _ m5) h.n1, fun i hi => ?_⟩
    obtain ⟨hil, hnL⟩ := ready_lt hi h.size
    have hils : i < listed.size := by rw [h.size]; exact hil
    have him : i ∈ x.list := Classical.byContradiction fun hm => hnL (h.quiet i hil hm)
    have hsize : (listed.setIfInBounds i true).size = ops.size := by simp [h.size]
    have hquiet : ∀ k, k < ops.size → k ∉ x.list → isL (listed.setIfInBounds i true) k := fun k hk hm => (isL_set hils).2 (.inr (h.quiet k hk hm))
    have hcount : cntL (listed.setIfInBounds i true) x.list ≤ fuel := by have := (cnt_set hils hnL x.list).2 him; omega
    obtain ⟨v1, v2, p1, p2, rfl, r1, r2, b1, b2, hne⟩ := h.st
    have L := fun k => isL_set (listed := listed) (i := i) (k := k) hils
    have un : ∀ {k}, k ≠ i → isL (listed.setIfInBounds i true) k → isL listed k := fun hk hl => ((L _).1 hl).resolve_left hk
    simp only [Six.list, List.mem_cons, List.not_mem_nil, or_false] at him
    have keep : ∀ {w'}, Below w.heap.size w w' → ∀ {p : Value}, (∃ g, p = .pointer (some ⟨g, 0, none⟩) ∧ B ≤ g ∧ w.heap[g]? = some (.cells zero T (0, 0))) → ∃ g, p = .pointer (some ⟨g, 0, none⟩) ∧ B ≤ g ∧ w'.heap[g]? = some (.cells zero T (0, 0)) := fun hb _ ⟨g, e, hg, hh⟩ => ⟨g, e, hg, (hb.block g (lt_blk hh)).trans hh⟩
    rcases him with rfl | rfl | rfl | rfl | rfl | rfl
    · exact c1 v1 v2 p1 p2 w _ h.hS fun v w' hv hb => ⟨hS1 _ _ h.hS hb, ih _ _ _ hcount ⟨hsize, hquiet, fun hl => h.n1 (un (Ne.symm n15) hl), fun hl => h.n2 (un (Ne.symm n16) hl), hS1 _ _ h.hS hb, v, v2, p1, p2, rfl, fun _ => hv, fun hl => hR2 _ _ _ (r2 (un (Ne.symm n12) hl)) hb, fun hl => keep hb (b1 (un (Ne.symm n13) hl)), fun hl => keep hb (b2 (un (Ne.symm n14) hl)), fun h1 h2 => hne (un (Ne.symm n13) h1) (un (Ne.symm n14) h2)⟩⟩
    · exact c2 v1 v2 p1 p2 w _ h.hS fun v w' hv hb => ⟨hS1 _ _ h.hS hb, ih _ _ _ hcount ⟨hsize, hquiet, fun hl => h.n1 (un (Ne.symm n25) hl), fun hl => h.n2 (un (Ne.symm n26) hl), hS1 _ _ h.hS hb, v1, v, p1, p2, rfl, fun hl => hR1 _ _ _ (r1 (un n12 hl)) hb, fun _ => hv, fun hl => keep hb (b1 (un (Ne.symm n23) hl)), fun hl => keep hb (b2 (un (Ne.symm n24) hl)), fun h1 h2 => hne (un (Ne.symm n23) h1) (un (Ne.symm n24) h2)⟩⟩
    · have hb : Below w.heap.size w (w.alloc (.cells zero T)) := (Below.refl _ _).alloc (Nat.le_refl _) _
      have hg : (w.alloc (.cells zero T)).heap[w.heap.size]? = some (.cells zero T (0, 0)) := Array.getElem?_push_size
      exact a1 v1 v2 p1 p2 w _ h.hS ⟨hS1 _ _ h.hS hb, ih _ _ _ hcount ⟨hsize, hquiet, fun hl => h.n1 (un (Ne.symm n35) hl), fun hl => h.n2 (un (Ne.symm n36) hl), hS1 _ _ h.hS hb, v1, v2, _, p2, rfl, fun hl => hR1 _ _ _ (r1 (un n13 hl)) hb, fun hl => hR2 _ _ _ (r2 (un n23 hl)) hb, fun _ => ⟨_, rfl, hB _ h.hS, hg⟩, fun hl => keep hb (b2 (un (Ne.symm n34) hl)), fun _ h2 e => by
        obtain ⟨g, e', _, hh⟩ := b2 (un (Ne.symm n34) h2)
        rw [e'] at e
        injection e with e; injection e with e; injection e with e
        have := lt_blk hh; omega⟩⟩
    · have hb : Below w.heap.size w (w.alloc (.cells zero T)) := (Below.refl _ _).alloc (Nat.le_refl _) _
      have hg : (w.alloc (.cells zero T)).heap[w.heap.size]? = some (.cells zero T (0, 0)) := Array.getElem?_push_size
      exact a2 v1 v2 p1 p2 w _ h.hS ⟨hS1 _ _ h.hS hb, ih _ _ _ hcount ⟨hsize, hquiet, fun hl => h.n1 (un (Ne.symm n45) hl), fun hl => h.n2 (un (Ne.symm n46) hl), hS1 _ _ h.hS hb, v1, v2, p1, _, rfl, fun hl => hR1 _ _ _ (r1 (un n14 hl)) hb, fun hl => hR2 _ _ _ (r2 (un n24 hl)) hb, fun hl => keep hb (b1 (un n34 hl)), fun _ => ⟨_, rfl, hB _ h.hS, hg⟩, fun h1 _ e => by
        obtain ⟨g, e', _, hh⟩ := b1 (un n34 h1)
        rw [e'] at e
        injection e with e; injection e with e; injection e with e
        have := lt_blk hh; omega⟩⟩
    · have l1 := waits_listed e1 hi
      have l2 := waits_listed e2 hi
      have l3 := waits_listed e3 hi
      have l4 := waits_listed e4 hi
      obtain ⟨g1, rfl, hg1, hb1⟩ := b1 l3
      obtain ⟨g2, rfl, hg2, hb2⟩ := b2 l4
      have hgg : g1 ≠ g2 := fun e => hne l3 l4 (by rw [e])
      refine t1 v1 v2 g1 _ w _ h.hS (r1 l1) hb1 fun W hW ho => ⟨hS2 _ _ _ h.hS hg1 ho, ?_⟩
      have hSW := hS2 _ _ _ h.hS hg1 ho
      have hR1W := hR1s _ _ _ _ _ (r1 l1) hb1 ho
      have hR2W := hR2s _ _ _ _ _ (r2 l2) hb1 ho
      have hb2W := (ho.block g2 (lt_blk hb2) (fun e => hgg e.symm)).trans hb2
      have hnL6 : ¬ isL (listed.setIfInBounds x.s1 true) x.s2 := fun hl => h.n2 (un (Ne.symm n56) hl)
      have hs6 : x.s2 < (listed.setIfInBounds x.s1 true).size := by rw [hsize]; exact hlt _ m6
      cases fuel with
      | zero =>
        have hz : x.list.filter (fun i => !(listed.setIfInBounds x.s1 true).getD i false) = [] := List.eq_nil_of_length_eq_zero (by unfold cntL at hcount; omega)
        have := List.filter_eq_nil_iff.1 hz _ m6
        exact absurd (show isL (listed.setIfInBounds x.s1 true) x.s2 by unfold isL; simpa using this) hnL6
      | succ fuel =>
        refine ⟨fun hr => absurd (all _ hsize hquiet hr _ m6) hnL6, fun i hi' => ?_⟩
        obtain ⟨hil', hnL'⟩ := ready_lt hi' hsize
        obtain rfl : i = x.s2 := by
          have him : i ∈ x.list := Classical.byContradiction fun hm => hnL' (hquiet i hil' hm)
          simp only [Six.list, List.mem_cons, List.not_mem_nil, or_false] at him
          rcases him with rfl | rfl | rfl | rfl | rfl | rfl
          · exact absurd ((L _).2 (.inr l1)) hnL'
          · exact absurd ((L _).2 (.inr l2)) hnL'
          · exact absurd ((L _).2 (.inr l3)) hnL'
          · exact absurd ((L _).2 (.inr l4)) hnL'
          · exact absurd ((L _).2 (.inl rfl)) hnL'
          · rfl
        refine t2 v1 v2 _ g2 W _ hSW hR2W hb2W fun W2 hW2 ho2 => ⟨hS2 _ _ _ hSW hg2 ho2, ?_⟩
        have hQ := hfin v1 v2 g1 g2 W2 (hS2 _ _ _ hSW hg2 ho2) (hR1s _ _ _ _ _ hR1W hb2W ho2) (hR2s _ _ _ _ _ hR2W hb2W ho2) hg1 hg2 hgg ((ho2.block g1 (lt_blk hW) hgg).trans hW) hW2
        have L2 := fun k => isL_set (listed := listed.setIfInBounds x.s1 true) (i := x.s2) (k := k) hs6
        have hnil : Region.ready .any ops ((listed.setIfInBounds x.s1 true).setIfInBounds x.s2 true) = [] := ready_nil (by simp [h.size]) (fun k hk => by
          by_cases hm : k ∈ x.list
          · simp only [Six.list, List.mem_cons, List.not_mem_nil, or_false] at hm
            rcases hm with rfl | rfl | rfl | rfl | rfl | rfl
            · exact (L2 _).2 (.inr ((L _).2 (.inr l1)))
            · exact (L2 _).2 (.inr ((L _).2 (.inr l2)))
            · exact (L2 _).2 (.inr ((L _).2 (.inr l3)))
            · exact (L2 _).2 (.inr ((L _).2 (.inr l4)))
            · exact (L2 _).2 (.inr ((L _).2 (.inl rfl)))
            · exact (L2 _).2 (.inl rfl)
          · exact (L2 _).2 (.inr (hquiet k hk hm)))
        cases fuel with
        | zero => exact ⟨hnil, hQ⟩
        | succ fuel => exact ⟨fun _ => hQ, fun i hi => by rw [hnil] at hi; cases hi⟩
    · exact absurd (waits_listed e5 hi) h.n1
/-- The frame, four slots set. -/
def put4 (a : Act) (d1 d2 e1 e2 : Nat) (v1 v2 p1 p2 : Value) : Act := (((a.put (some d1) v1).put (some d2) v2).put (some e1) p1).put (some e2) p2
def Six.start (x : Six) (ops : Array Oper) (listed : Array Bool) : Bool := decide (listed.size = ops.size) && (List.range ops.size).all (fun k => x.list.contains k || listed.getD k false) && x.list.all (fun k => !listed.getD k false) &&
  x.list.all (fun i => match ops[i]? with | some o => o.after.toList.all (fun e => decide (e.on < ops.size)) | none => true)
theorem two_start {x : Six} {B : Nat} {T : TypeId} {zero : Array Value} {cellsOf : Value → Array Value} {R1 R2 : Value → World → Prop} (d1 d2 e1 e2 : Nat) {a0 : Act} {fuel : Nat} {listed : Array Bool} {w : World}
    (hok : x.ok ops = true) (hst : x.start ops listed = true) (hfu : 6 ≤ fuel) (hcan : put4 a0 d1 d2 e1 e2 undef undef undef undef = a0) (hSw : S w)
    (hS1 : ∀ w w', S w → Below w.heap.size w w' → S w') (hS2 : ∀ w w' g, S w → B ≤ g → Only (fun k => k = g) w w' → S w') (hB : ∀ w, S w → B ≤ w.heap.size)
    (hR1 : ∀ v w w', R1 v w → Below w.heap.size w w' → R1 v w') (hR1s : ∀ v w w' g cs, R1 v w → w.heap[g]? = some (.cells cs T (0, 0)) → Only (fun k => k = g) w w' → R1 v w')
    (hR2 : ∀ v w w', R2 v w → Below w.heap.size w w' → R2 v w') (hR2s : ∀ v w w' g cs, R2 v w → w.heap[g]? = some (.cells cs T (0, 0)) → Only (fun k => k = g) w w' → R2 v w')
    (c1 : ∀ v1 v2 p1 p2 w K, S w → (∀ v w', R1 v w' → Below w.heap.size w w' → K (put4 a0 d1 d2 e1 e2 v v2 p1 p2) w') → wpOp P ops Q x.i1 K (put4 a0 d1 d2 e1 e2 v1 v2 p1 p2) w)
    (c2 : ∀ v1 v2 p1 p2 w K, S w → (∀ v w', R2 v w' → Below w.heap.size w w' → K (put4 a0 d1 d2 e1 e2 v1 v p1 p2) w') → wpOp P ops Q x.i2 K (put4 a0 d1 d2 e1 e2 v1 v2 p1 p2) w)
    (a1 : ∀ v1 v2 p1 p2 w K, S w → K (put4 a0 d1 d2 e1 e2 v1 v2 (.pointer (some ⟨w.heap.size, 0, none⟩)) p2) (w.alloc (.cells zero T)) → wpOp P ops Q x.j1 K (put4 a0 d1 d2 e1 e2 v1 v2 p1 p2) w)
    (a2 : ∀ v1 v2 p1 p2 w K, S w → K (put4 a0 d1 d2 e1 e2 v1 v2 p1 (.pointer (some ⟨w.heap.size, 0, none⟩))) (w.alloc (.cells zero T)) → wpOp P ops Q x.j2 K (put4 a0 d1 d2 e1 e2 v1 v2 p1 p2) w)
    (t1 : ∀ v1 v2 g p2 w K, S w → R1 v1 w → w.heap[g]? = some (.cells zero T (0, 0)) → (∀ w', w'.heap[g]? = some (.cells (cellsOf v1) T (0, 0)) → Only (fun k => k = g) w w' → K (put4 a0 d1 d2 e1 e2 v1 v2 (.pointer (some ⟨g, 0, none⟩)) p2) w') → wpOp P ops Q x.s1 K (put4 a0 d1 d2 e1 e2 v1 v2 (.pointer (some ⟨g, 0, none⟩)) p2) w)
    (t2 : ∀ v1 v2 p1 g w K, S w → R2 v2 w → w.heap[g]? = some (.cells zero T (0, 0)) → (∀ w', w'.heap[g]? = some (.cells (cellsOf v2) T (0, 0)) → Only (fun k => k = g) w w' → K (put4 a0 d1 d2 e1 e2 v1 v2 p1 (.pointer (some ⟨g, 0, none⟩))) w') → wpOp P ops Q x.s2 K (put4 a0 d1 d2 e1 e2 v1 v2 p1 (.pointer (some ⟨g, 0, none⟩))) w)
    (hfin : ∀ v1 v2 g1 g2 w, S w → R1 v1 w → R2 v2 w → B ≤ g1 → B ≤ g2 → g1 ≠ g2 → w.heap[g1]? = some (.cells (cellsOf v1) T (0, 0)) → w.heap[g2]? = some (.cells (cellsOf v2) T (0, 0)) → Q .normal (put4 a0 d1 d2 e1 e2 v1 v2 (.pointer (some ⟨g1, 0, none⟩)) (.pointer (some ⟨g2, 0, none⟩))) w) :
    wpAnyH P .any ops Q S fuel listed a0 w := by
  simp only [Six.start, Bool.and_eq_true, decide_eq_true_eq, List.all_eq_true] at hst
  obtain ⟨⟨⟨h1, h2⟩, h3⟩, h4⟩ := hst
  have hno : ∀ i ∈ x.list, ¬ isL listed i := fun i hi hl => by
    have := h3 i hi
    unfold isL at hl
    rw [hl] at this
    cases this
  refine two_inv (canon := put4 a0 d1 d2 e1 e2) (T := T) (zero := zero) (cellsOf := cellsOf) hok ?_ hS1 hS2 hB hR1 hR1s hR2 hR2s c1 c2 a1 a2 t1 t2 hfin fuel listed a0 w ?_ ?_
  · intro i hi o ho e he
    have := h4 i hi
    rw [ho] at this
    simp only [List.all_eq_true, decide_eq_true_eq] at this
    exact this e (Array.mem_toList_iff.2 he)
  · have : cntL listed x.list ≤ x.list.length := List.length_filter_le _ _
    have hl : x.list.length = 6 := rfl
    omega
  · refine ⟨h1, fun k hk hm => ?_, hno _ (by simp [Six.list]), hno _ (by simp [Six.list]), hSw, undef, undef, undef, undef, hcan.symm, fun h => absurd h (hno _ (by simp [Six.list])), fun h => absurd h (hno _ (by simp [Six.list])), fun h => absurd h (hno _ (by simp [Six.list])), fun h => absurd h (hno _ (by simp [Six.list])), fun h => absurd h (hno _ (by simp [Six.list]))⟩
    have := h2 k (List.mem_range.2 hk)
    simp only [Bool.or_eq_true, List.contains_eq_mem, decide_eq_true_eq] at this
    exact this.resolve_left hm
end
end Go.Proofs.Ytffnkbicbfjnpaa
