/- What refinerylaw02.BagLaws' walk comes to. Conditions: the rows' cells hold numbers. -/
import Derived.Test.YteojcdpmlhlfaaaBLPlain
import Derived.Test.YteojcdpmlhlfaaaBLClosure
import Derived.Test.YteojcdpmlhlfaaaDropB
import Derived.Test.YteojcdpmlhlfaaaAwake
import Derived.Test.YteojcdpmlhlfaaaOpen
import Derived.Deep.RegionHeld3
import Derived.Shelf.RegionOpen
namespace Go.Proofs.Yteojcdpmlhlfaaa
open Go.RowKit Go.Shelf SB
attribute [local go_sem] Oper.semAt_some
theorem cells_below {A : Option Addr} {l : List Int} {w W : World} (h : CellsAt A l w) (hb : Below w.heap.size w W) : CellsAt A l W := fun i hi => by
  obtain ⟨g, o, e, hc⟩ := h i hi
  exact ⟨g, o, e, (hb.cell (p := ⟨g, o + i, none⟩) (block_lt_of_cell hc)).trans hc⟩
/-- The three sets' boxes and rows; all lies below Q. -/
structure LSt (w W : World) (B p Q : Nat) (v1 v2 v3 : Value) (xs ys zs : List Int) : Prop where
  below : Below B w W
  ret : W.heap[B]? = some (.cells #[.bool false] 4 (0, 0))
  b1 : W.heap[p]? = some (.cells #[v1] 79 (0, 0))
  b2 : W.heap[p + 1]? = some (.cells #[v2] 79 (0, 0))
  b3 : W.heap[p + 2]? = some (.cells #[v3] 79 (0, 0))
  s1 : IsSetB W B v1 xs
  s2 : IsSetB W B v2 ys
  s3 : IsSetB W B v3 zs
  hp : B < p ∧ p + 2 < Q
  q : Q ≤ W.heap.size
  o1 : ∀ g, v1.ownBlock = some g → g < Q
  o2 : ∀ g, v2.ownBlock = some g → g < Q
  o3 : ∀ g, v3.ownBlock = some g → g < Q
theorem LSt.only {S : Nat → Prop} {w W W' : World} {B p Q : Nat} {v1 v2 v3 : Value} {xs ys zs : List Int} (h : LSt w W B p Q v1 v2 v3 xs ys zs) (ho : Only S W W') (hS : ∀ k, S k → Q ≤ k) : LSt w W' B p Q v1 v2 v3 xs ys zs := by
  have hp := h.hp
  have hq := h.q
  refine ⟨h.below.trans (ho.below (by omega) (fun k hk e => by have := hS k e; omega)), (ho.block B (by omega) (fun e => by have := hS _ e; omega)).trans h.ret, (ho.block p (by omega) (fun e => by have := hS _ e; omega)).trans h.b1,
    (ho.block (p + 1) (by omega) (fun e => by have := hS _ e; omega)).trans h.b2, (ho.block (p + 2) (by omega) (fun e => by have := hS _ e; omega)).trans h.b3,
    h.s1.only ho (fun g hg e => by have := hS g e; have := h.o1 g hg; omega), h.s2.only ho (fun g hg e => by have := hS g e; have := h.o2 g hg; omega), h.s3.only ho (fun g hg e => by have := hS g e; have := h.o3 g hg; omega),
    h.hp, Nat.le_trans h.q ho.size, h.o1, h.o2, h.o3⟩
theorem LSt.cells {w W : World} {B p Q : Nat} {v1 v2 v3 : Value} {xs ys zs : List Int} (h : LSt w W B p Q v1 v2 v3 xs ys zs) : W.cell? ⟨p, 0, none⟩ = some v1 ∧ W.cell? ⟨p + 1, 0, none⟩ = some v2 ∧ W.cell? ⟨p + 2, 0, none⟩ = some v3 ∧ W.cell? ⟨B, 0, none⟩ = some (.bool false) ∧ W.frozen? ⟨B, 0, none⟩ = false :=
  ⟨by rw [cell_of_blk _ _ _ _ _ h.b1]; rfl, by rw [cell_of_blk _ _ _ _ _ h.b2]; rfl, by rw [cell_of_blk _ _ _ _ _ h.b3]; rfl, by rw [cell_of_blk _ _ _ _ _ h.ret]; rfl, by simp [World.frozen?, h.ret]⟩
/-- What holds within the first loop's body. -/
structure DSt (w Wb W : World) (B p Q u D : Nat) (v1 v2 v3 v0 v : Value) (xs ys zs l : List Int) : Prop where
  st : LSt w W B p Q v1 v2 v3 xs ys zs
  sz : D + 2 ≤ W.heap.size
  it : W.heap[u + 1]? = some (.cells #[v2] 79 (0, 0))
  bu : W.heap[u]? = some (.cells #[v] 79 (0, 0))
  su : IsSetB W Q v l
  ou : v.ownBlock = v0.ownBlock
  kD : W.heap[D]? = Wb.heap[D]?
  kL : W.heap[D + 1]? = Wb.heap[D + 1]?
  qu : Q ≤ u ∧ u + 1 < D
  o0 : ∀ g, v0.ownBlock = some g → g < u
section
variable {w Wb W : World} {B p Q u D : Nat} {v1 v2 v3 v0 v : Value} {xs ys zs l : List Int}
theorem DSt.below {W' : World} (h : DSt w Wb W B p Q u D v1 v2 v3 v0 v xs ys zs l) (hb : Below W.heap.size W W') : DSt w Wb W' B p Q u D v1 v2 v3 v0 v xs ys zs l := by
  have hsz := h.sz
  have hqu := h.qu
  have ho := Only.of_below hb
  exact ⟨h.st.only ho (fun k hk => by have := h.st.q; omega), by have := hb.size; omega, (hb.block _ (by omega)).trans h.it, (hb.block _ (by omega)).trans h.bu, h.su.only ho (fun g hg e => by have := (own_lt h.su.own hg).1; omega), h.ou,
    (hb.block _ (by omega)).trans h.kD, (hb.block _ (by omega)).trans h.kL, h.qu, h.o0⟩
theorem DSt.has (h : DSt w Wb W B p Q u D v1 v2 v3 v0 v xs ys zs l) (hn : xs.length ≤ 30) (x : Int) :
    Calls Try.prog 47 #[.agg #[v1], .int .u8 x] W fun e w' => e = .returned (.bool (decide (x ∈ xs))) ∧ DSt w Wb w' B p Q u D v1 v2 v3 v0 v xs ys zs l :=
  (hasB B v1 xs x W h.st.s1 (by omega)).mono fun e w' ⟨he, hb⟩ => ⟨he, h.below hb⟩
theorem DSt.drop (h : DSt w Wb W B p Q u D v1 v2 v3 v0 v xs ys zs l) (hn : l.length ≤ 30) (x : Int) :
    Calls Try.prog 46 #[.pointer (some ⟨u, 0, none⟩), .int .u8 x] W fun e w' => ∃ v', e = .returned (.bool (decide (x ∈ l))) ∧ DSt w Wb w' B p Q u D v1 v2 v3 v0 v' xs ys zs (del x l) := by
  have hne : v.ownBlock ≠ some u := own_ne_blk h.su.own h.bu (by decide)
  have hqu := h.qu
  have hsz := h.sz
  have hlt : ∀ g, v.ownBlock = some g → Q ≤ g ∧ g < u := fun g hg => ⟨(own_lt h.su.own hg).2, h.o0 g (by rw [← h.ou]; exact hg)⟩
  refine (dropB Q u 0 v l x W h.su (by omega) _ _ h.bu rfl hne).mono ?_
  rintro e w' ⟨v', he, hs, hput, hown⟩
  have hk : ∀ j, D ≤ j → j < D + 2 ∨ j = u + 1 → ¬ (j = u ∨ v.ownBlock = some j) := fun j hj _ e => by
    rcases e with e | e
    · omega
    · have := hlt j e; omega
  refine ⟨v', he, h.st.only hput.only ?_, by have := hput.only.size; omega, (hput.only.block (u + 1) (by omega) ?_).trans h.it, hput.blk _ _ _ h.bu, hs, hown.trans h.ou, (hput.only.block D (by omega) (hk D (by omega) (by omega))).trans h.kD, (hput.only.block (D + 1) (by omega) (hk (D + 1) (by omega) (by omega))).trans h.kL, h.qu, h.o0⟩
  · rintro k (e | e)
    · omega
    · exact (hlt k e).1
  · rintro (e | e)
    · omega
    · have := hlt _ e; omega
end
/-- What the last statement reads and writes. -/
structure FSt (w W : World) (B p q D E Q : Nat) (v1 v2 v3 : Value) (xs ys zs : List Int) (cn : Nat) : Prop where
  below : Below B w W
  ret : ∃ b, W.heap[B]? = some (.cells #[.bool b] 4 (0, 0))
  b1 : W.heap[p]? = some (.cells #[v1] 79 (0, 0))
  b2 : W.heap[p + 1]? = some (.cells #[v2] 79 (0, 0))
  b3 : W.heap[p + 2]? = some (.cells #[v3] 79 (0, 0))
  bq : W.heap[q]? = some (.cells #[.int .i64 (cn : Int)] 3 (0, 0))
  kD : W.heap[D]? = some (.deferred (some []))
  kE : W.heap[E]? = some (.deferred (some []))
  s1 : IsSetB W B v1 xs
  s2 : IsSetB W B v2 ys
  s3 : IsSetB W B v3 zs
  hp : B < p ∧ p + 2 < Q ∧ Q ≤ D ∧ D < q ∧ q < E
  wB : B ≤ w.heap.size
def retv (B : Nat) (W : World) : Value := (W.cell? ⟨B, 0, none⟩).getD undef
section
variable {w W W' : World} {B p q D E Q cn : Nat} {v1 v2 v3 : Value} {xs ys zs : List Int}
theorem FSt.later (h : FSt w W B p q D E Q v1 v2 v3 xs ys zs cn) (hb : Below W.heap.size W W') : FSt w W' B p q D E Q v1 v2 v3 xs ys zs cn := by
  have lt : ∀ {k : Nat} {o : Obj}, W.heap[k]? = some o → W'.heap[k]? = some o := fun {k o} hk => (hb.block k (Array.getElem?_eq_some_iff.1 hk).1).trans hk
  have ho := Only.of_below hb
  obtain ⟨b, hr⟩ := h.ret
  exact ⟨h.below.trans (hb.mono (Nat.le_trans h.wB h.below.size)), ⟨b, lt hr⟩, lt h.b1, lt h.b2, lt h.b3, lt h.bq, lt h.kD, lt h.kE, h.s1.only ho (fun g hg e => by have := (own_lt h.s1.own hg).1; omega), h.s2.only ho (fun g hg e => by have := (own_lt h.s2.own hg).1; omega), h.s3.only ho (fun g hg e => by have := (own_lt h.s3.own hg).1; omega), h.hp, h.wB⟩
theorem FSt.drew (h : FSt w W B p q D E Q v1 v2 v3 xs ys zs cn) : FSt w W.drew B p q D E Q v1 v2 v3 xs ys zs cn := h.later ((Only.drew (fun _ => False) W).below (Nat.le_refl _) (fun _ _ => id))
theorem FSt.store (h : FSt w W B p q D E Q v1 v2 v3 xs ys zs cn) (b : Bool) : FSt w (W.setCell ⟨B, 0, none⟩ (.bool b)) B p q D E Q v1 v2 v3 xs ys zs cn := by
  have hhp := h.hp
  have ho := Only.setCell W ⟨B, 0, none⟩ (.bool b)
  have lt : ∀ {k : Nat} {o : Obj}, k ≠ B → W.heap[k]? = some o → (W.setCell ⟨B, 0, none⟩ (.bool b)).heap[k]? = some o := fun {k o} hkB hk => (ho.block k (Array.getElem?_eq_some_iff.1 hk).1 hkB).trans hk
  obtain ⟨b0, hr⟩ := h.ret
  exact ⟨h.below.setCell (Nat.le_refl _) _, ⟨b, by simp [World.setCell, Array.getElem?_modify, hr]⟩, lt (by omega) h.b1, lt (by omega) h.b2, lt (by omega) h.b3, lt (by omega) h.bq, lt (by omega) h.kD, lt (by omega) h.kE,
    h.s1.only ho (fun g hg e => own_ne_blk h.s1.own hr (by decide) (by rw [hg]; exact congrArg some e)), h.s2.only ho (fun g hg e => own_ne_blk h.s2.own hr (by decide) (by rw [hg]; exact congrArg some e)), h.s3.only ho (fun g hg e => own_ne_blk h.s3.own hr (by decide) (by rw [hg]; exact congrArg some e)), h.hp, h.wB⟩
@[reducible] def FS (w : World) (B p q D E Q : Nat) (v1 v2 v3 : Value) (xs ys zs : List Int) (cn : Nat) (W : World) : Prop :=
  FSt w W B p q D E Q v1 v2 v3 xs ys zs cn ∧ W.cell? ⟨p, 0, none⟩ = some v1 ∧ W.cell? ⟨p + 1, 0, none⟩ = some v2 ∧ W.cell? ⟨p + 1 + 1, 0, none⟩ = some v3 ∧ W.cell? ⟨q, 0, none⟩ = some (.int .i64 (cn : Int)) ∧
    W.cell? ⟨B, 0, none⟩ = some (retv B W) ∧ W.frozen? ⟨B, 0, none⟩ = false
theorem FSt.all (h : FSt w W B p q D E Q v1 v2 v3 xs ys zs cn) : FS w B p q D E Q v1 v2 v3 xs ys zs cn W := by
  obtain ⟨b, hr⟩ := h.ret
  refine ⟨h, by rw [cell_of_blk _ _ _ _ _ h.b1]; rfl, by rw [cell_of_blk _ _ _ _ _ h.b2]; rfl, by rw [cell_of_blk _ _ _ _ _ h.b3]; rfl, by rw [cell_of_blk _ _ _ _ _ h.bq]; rfl, ?_, by simp [World.frozen?, hr]⟩
  have : W.cell? ⟨B, 0, none⟩ = some (.bool b) := by rw [cell_of_blk _ _ _ _ _ hr]; rfl
  unfold retv; rw [this]; rfl
theorem isset_later {b : Nat} {v : Value} {l : List Int} (h : IsSetB W b v l) (hb : Below W.heap.size W W') : IsSetB W' b v l := h.only (Only.of_below hb) (fun g hg e => by have := (own_lt h.own hg).1; omega)
theorem below_step {a b c : World} (h : Below a.heap.size a b) (k : Below b.heap.size b c) : Below a.heap.size a c := h.trans (k.mono h.size)
end
set_option maxRecDepth 100000 in
set_option maxHeartbeats 4000000 in
theorem laws_walk (A1 A2 A3 : Option Addr) (c1 c2 c3 : Nat) (la lb lc : List Int) (w : World) (hn1 : (decide ((30 : Int) < (la.length : Int))) = false) (hn2 : (decide ((30 : Int) < (lb.length : Int))) = false) (hn3 : (decide ((30 : Int) < (lc.length : Int))) = false)
    (h1 : la.length ≤ 30) (h2 : lb.length ≤ 30) (h3 : lc.length ≤ 30)
    (hA1 : CellsAt A1 la w) (hA2 : CellsAt A2 lb w) (hA3 : CellsAt A3 lc w) :
    Calls Try.prog 9 #[.slice A1 la.length c1, .slice A2 lb.length c2, .slice A3 lc.length c3] w fun e w' => e = .returned (.bool true) ∧ Below w.heap.size w w' := by
  refine (callsIn_wide (n := 3)).1 ?_
  refine callsIn_of_wp_marks Try.func9 rfl trivial ?_ rfl
  simp only [Try.ntmps9, List.size_toArray, List.length_cons, List.length_nil, Nat.reduceAdd, Nat.reduceSub, Array.replicate_succ, Array.replicate_zero, List.push_toArray, List.append_toArray, List.nil_append, List.cons_append]
  refine wpIn_wide.2 ?_
  have hW0 : (w.alloc (.cells #[.bool false] 4)).heap[w.heap.size]? = some (.cells #[.bool false] 4 (0, 0)) := heap_alloc_new w _
  have HA := Lib.hid (And.intro hA1 (And.intro hA2 hA3))
  clear hA1 hA2 hA3
  go_wp2_with fail
  refine (awake _).mono ?_
  rintro e w1 ⟨rfl, hb1⟩
  obtain ⟨B, hB⟩ : ∃ B, w.heap.size = B := ⟨_, rfl⟩
  have HB := Lib.hid hB
  have hb01 : Below B w w1 := by rw [← hB]; exact ((Below.refl w.heap.size w).alloc (Nat.le_refl _) _).trans (hb1.mono (by simp))
  have hr1 : w1.heap[B]? = some (.cells #[.bool false] 4 (0, 0)) := by rw [← hB]; exact (hb1.block _ (by simp)).trans hW0
  clear hb1 hW0
  have hc1 : CellsAt A1 la w1 := cells_below HA.out.1 (hB ▸ hb01)
  have HO1 := Lib.hid (of A1 c1 la w1 (by omega) hc1)
  have HST := Lib.hid (And.intro hb01 hr1)
  clear hb01 hr1 hc1
  go_wp2_with fail
  refine HO1.out.mono ?_
  rintro e w2 ⟨v1, rfl, hs1, hb2⟩
  clear HO1
  have hb02 : Below B w w2 := HST.out.1.trans (hb2.mono (by have := HST.out.1.size; omega))
  have HO2 := Lib.hid (of A2 c2 lb w2 (by omega) (cells_below HA.out.2.1 (hB ▸ hb02)))
  go_wp2_with fail
  refine HO2.out.mono ?_
  rintro e w3 ⟨v2, rfl, hs2, hb3⟩
  clear HO2
  have hb03 : Below B w w3 := hb02.trans (hb3.mono (by have := hb02.size; omega))
  have HO3 := Lib.hid (of A3 c3 lc w3 (by omega) (cells_below HA.out.2.2 (hB ▸ hb03)))
  go_wp2_with fail
  refine HO3.out.mono ?_
  rintro e w4 ⟨v3, rfl, hs3, hb4⟩
  clear HO3
  obtain ⟨A4, c4, rfl, _, _, _⟩ := isset_cells hs1
  obtain ⟨A5, c5, rfl, _, _, _⟩ := isset_cells hs2
  obtain ⟨A6, c6, rfl, _, _, _⟩ := isset_cells hs3
  have hb04 : Below B w w4 := hb03.trans (hb4.mono (by have := hb03.size; omega))
  have hs14 : IsSetB w4 w1.heap.size _ _ := (hs1.only (Only.of_below hb3) (fun g hg h => by have := (own_lt hs1.own hg).1; omega)).only (Only.of_below hb4) (fun g hg h => by have := (own_lt hs1.own hg).1; have := hb3.size; omega)
  have hs24 := hs2.only (Only.of_below hb4) (fun g hg h => by have := (own_lt hs2.own hg).1; omega)
  obtain ⟨W5, hW5⟩ : ∃ W5, W5 = ((w4.alloc (.cells #[.slice A4 (ofLB la).length c4] 79)).alloc (.cells #[.slice A5 (ofLB lb).length c5] 79)).alloc (.cells #[.slice A6 (ofLB lc).length c6] 79) := ⟨_, rfl⟩
  have hl5 : LSt w W5 B w4.heap.size W5.heap.size (.slice A4 (ofLB la).length c4) (.slice A5 (ofLB lb).length c5) (.slice A6 (ofLB lc).length c6) (ofLB la) (ofLB lb) (ofLB lc) := by
    have ho5 : Only (fun _ => False) w4 W5 := by
      rw [hW5]
      exact ((Only.alloc _ w4 _).trans (Only.alloc (fun _ => False) _ _) (fun _ _ => id)).trans (Only.alloc (fun _ => False) _ _) (fun _ _ => id)
    have hsz : W5.heap.size = w4.heap.size + 3 := by rw [hW5]; simp
    have hBlt : B < w1.heap.size := (Array.getElem?_eq_some_iff.1 HST.out.2).1
    have hsz2 := hb2.size; have hsz3 := hb3.size; have hsz4 := hb4.size
    refine ⟨hb04.trans (ho5.below (by omega) (fun _ _ => id)), ?_, ?_, ?_, ?_, ?_, ?_, ?_, by omega, Nat.le_refl _, ?_, ?_, ?_⟩
    · exact (ho5.block B (by omega) id).trans ((hb4.block B (by omega)).trans ((hb3.block B (by omega)).trans ((hb2.block B hBlt).trans HST.out.2)))
    · rw [hW5]; exact (Below.heap_alloc _ _ _ (by simp; omega)).trans ((Below.heap_alloc _ _ _ (by simp)).trans (heap_alloc_new w4 _))
    · rw [hW5]
      refine (Below.heap_alloc _ _ _ (by simp)).trans ?_
      have := heap_alloc_new (w4.alloc (.cells #[.slice A4 (ofLB la).length c4] 79)) (.cells #[.slice A5 (ofLB lb).length c5] 79)
      rwa [World.size_alloc] at this
    · rw [hW5]
      have := heap_alloc_new ((w4.alloc (.cells #[.slice A4 (ofLB la).length c4] 79)).alloc (.cells #[.slice A5 (ofLB lb).length c5] 79)) (.cells #[.slice A6 (ofLB lc).length c6] 79)
      rwa [World.size_alloc, World.size_alloc] at this
    · exact ⟨own_base (hs14.only ho5 (fun _ _ => id)).own (by omega), hs14.srt⟩
    · exact ⟨own_base (hs24.only ho5 (fun _ _ => id)).own (by omega), hs24.srt⟩
    · exact ⟨own_base (hs3.only ho5 (fun _ _ => id)).own (by omega), hs3.srt⟩
    · intro g hg; have := (own_lt hs14.own hg).1; omega
    · intro g hg; have := (own_lt hs24.own hg).1; omega
    · intro g hg; have := (own_lt hs3.own hg).1; omega
  have hlx := ofLB_len la
  have hly := ofLB_len lb
  have hlz := ofLB_len lc
  have HCL := Lib.hid (clone B _ _ W5 hl5.s1 (by omega))
  have HL5 := Lib.hid hl5
  rw [hW5] at HCL
  have HW5 := Lib.hid hW5
  clear hl5 hs1 hs2 hs3 hs14 hs24 hb2 hb3 hb4 hb02 hb03 hb04 hW5
  generalize ofLB la = xs at *
  generalize ofLB lb = ys at *
  generalize ofLB lc = zs at *
  go_wp2_with fail
  refine HCL.out.mono ?_
  rintro e w6 ⟨vu, rfl, hsu, hb6⟩
  rw [← HW5.out] at hsu hb6
  clear HCL HW5
  obtain ⟨A7, c7, rfl, _, _, _⟩ := isset_cells hsu
  generalize w4.heap.size = p at *
  obtain ⟨Q, hQ⟩ : ∃ Q, W5.heap.size = Q := ⟨_, rfl⟩
  rw [hQ] at HL5 hsu hb6
  have hl6 := HL5.out.only (Only.of_below hb6) (fun _ h => h)
  obtain ⟨W7, hW7⟩ : ∃ W7, W7 = w6.alloc (.cells #[.slice A7 xs.length c7] 79) := ⟨_, rfl⟩
  have ho7 : Only (fun _ => False) w6 W7 := by rw [hW7]; exact Only.alloc _ _ _
  have hl7 := hl6.only ho7 (fun _ h => h.elim)
  have hsu7 := hsu.only ho7 (fun _ _ => id)
  have hpu7 : W7.heap[w6.heap.size]? = some (.cells #[.slice A7 xs.length c7] 79 (0, 0)) := by rw [hW7]; exact heap_alloc_new w6 _
  have hcells := hl7.cells
  have hc2 := hcells.2.1
  rw [hW7] at hc2
  have hQ6 : Q ≤ w6.heap.size := by have := hb6.size; omega
  go_wp2_with fail
  refine (all _ _).mono ?_
  rintro e w8 ⟨rfl, rfl⟩
  rw [World.size_alloc]
  obtain ⟨W8, hW8⟩ : ∃ W8, W8 = (w6.alloc (.cells #[.slice A7 xs.length c7] 79)).alloc (.cells #[.slice A5 ys.length c5] 79) := ⟨_, rfl⟩
  rw [← hW8]
  rw [← hW7] at hW8
  have ho8 : Only (fun _ => False) W7 W8 := by rw [hW8]; exact Only.alloc _ _ _
  have hl8 := hl7.only ho8 (fun _ h => h.elim)
  have hsu8 := hsu7.only ho8 (fun _ _ => id)
  have hpu8 := (ho8.block w6.heap.size (by rw [hW7]; simp) id).trans hpu7
  have hr8 : W8.heap[w6.heap.size + 1]? = some (.cells #[.slice A5 ys.length c5] 79 (0, 0)) := by
    rw [hW8]; have := heap_alloc_new W7 (.cells #[.slice A5 ys.length c5] 79); rw [hW7, World.size_alloc] at this; rw [hW7]; exact this
  have hsz8 : W8.heap.size = w6.heap.size + 2 := by rw [hW8, hW7]; simp
  have hulg : ∀ g, (Value.slice A7 xs.length c7).ownBlock = some g → g < w6.heap.size := fun g hg => (own_lt hsu.own hg).1
  clear hW8 hW7 ho8 ho7 hl7 hsu7 hpu7 hcells hc2 hl6 hsu hb6
  generalize w6.heap.size = u at *
  have HS8 := Lib.hid (And.intro hl8 (And.intro hsu8 (And.intro hpu8 hr8)))
  clear hl8 hsu8 hpu8 hr8
  go_wp2_with fail
  refine (wpIn_wide (n := 3)).1 ?_
  generalize hact : (Act.mk _ _ : Act) = a0
  obtain ⟨D, hD⟩ : ∃ D, W8.heap.size = D := ⟨_, rfl⟩
  obtain ⟨_, _, e5, _, hmax5, _⟩ := isset_cells HS8.out.1.s2
  have hys : ys.Nodup := srt_nodup ordI HS8.out.1.s2.srt
  have HYS := Lib.hid hys; clear hys
  refine wpIn_rf_steps (n := 3) rfl (by omega) (gf := 71) (lb := #[.pointer (some ⟨u + 1, 0, none⟩)]) (by rw [← hact]; rfl) trivial (enters_of Try.func71 (by kernel_rfl) rfl) (encs := encs ys) (N := ys.length) (fun _ => rfl)
    (Rd := fun W => CellsAt A5 ys W ∧ W.cell? ⟨u + 1, 0, none⟩ = some (.slice A5 ys.length c5))
    (fun J Jx hR hY W hJ => all_in 2 (u + 1) _ A5 c5 ys hmax5 J Jx (fun k W h => (hR k W h).1) hY W (hR 0 W hJ).2 hJ)
    (fun k W => LSt w W B p Q (.slice A4 xs.length c4) (.slice A5 ys.length c5) (.slice A6 zs.length c6) xs ys zs ∧ W8.heap.size ≤ W.heap.size ∧ W.heap[u + 1]? = some (.cells #[.slice A5 ys.length c5] 79 (0, 0)) ∧
      ∃ vu, W.heap[u]? = some (.cells #[vu] 79 (0, 0)) ∧ IsSetB W Q vu (delL xs (ys.take k)) ∧ vu.ownBlock = (Value.slice A7 xs.length c7).ownBlock)
    (fun _ _ _ => False)
    ?rd ?I ?Ix ?start (fun k a' W => ∃ y, ys[k]? = some y ∧ a' = Act.mk ((a0.tmps.setIfInBounds 41 (.int .u8 y)).setIfInBounds 12 (.int .u8 y)) []) ?Ax ?assign ?body ?done ?stop
  case rd =>
    rintro k W ⟨h1, h0, h2, _⟩
    obtain ⟨A, c, e, hc, _⟩ := isset_cells h1.s2
    cases e
    exact ⟨hc, by rw [cell_of_blk _ _ _ _ _ h2]; rfl⟩
  case I =>
    rw [hD]
    rintro k X Y ⟨h1, h0, h2, vu, h3, h4, h5⟩ hO
    refine ⟨h1.only hO (fun k hk => by omega), Nat.le_trans h0 hO.size, (hO.block _ (by omega) (by omega)).trans h2, vu, (hO.block _ (by omega) (by omega)).trans h3, h4.only hO (fun g hg e => ?_), h5⟩
    have := hulg g (by rw [← h5]; exact hg); omega
  case Ix => exact fun c k X Y h _ => h
  case start =>
    rintro W hO hlt
    obtain ⟨h1, h2, h3, h4⟩ := HS8.out
    exact ⟨h1.only hO (fun _ h => h.elim), hO.size, (hO.block _ (by omega) id).trans h4, _, (hO.block _ (by omega) id).trans h3, by simpa [delL] using h2.only hO (fun _ _ => id), rfl⟩
  case Ax => exact fun k a' A B h _ => h
  case assign =>
    intro k W K hk hI _ hK
    obtain ⟨y, hy⟩ : ∃ y, ys[k]? = some y := ⟨_, List.getElem?_eq_getElem hk⟩
    have HY := Lib.hid hy
    have he : encs ys k = #[.int .u8 y] := by simp [encs, hy]
    rw [he]
    clear hy he
    subst hact
    gi_wp2
    exact hK _ _ (Only.refl _ _) ⟨y, HY.out, rfl⟩
  case body =>
    rw [hD]
    rintro k a' W hk ⟨h1, h0, h2, vu, h3, h4, h5⟩ ⟨y, hy, rfl⟩ hDd ⟨r, hDl⟩
    subst hact
    simp only [List.setIfInBounds_toArray, List.set_cons_zero, List.set_cons_succ]
    have hD1 : D + 1 < W.heap.size := (Array.getElem?_eq_some_iff.1 hDl).1
    have hds : DSt w W W B p Q u D (.slice A4 xs.length c4) (.slice A5 ys.length c5) (.slice A6 zs.length c6) (.slice A7 xs.length c7) vu xs ys zs (delL xs (ys.take k)) :=
      ⟨h1, by omega, h2, h3, h4, h5, rfl, rfl, by omega, hulg⟩
    have hll : (delL xs (ys.take k)).length ≤ xs.length := by rw [delL_eq]; exact List.length_filter_le _ _
    have hyt : y ∉ ys.take k := fun hm => by
      obtain ⟨j, hj, e⟩ := List.getElem_of_mem hm
      rw [List.getElem_take] at e
      have hj' : j < k ∧ j < ys.length := by simp at hj; omega
      have hk2 := (List.getElem?_eq_some_iff.1 hy).2
      have := List.pairwise_iff_getElem.1 HYS.out j k hj'.2 hk hj'.1
      exact this (e.trans hk2.symm)
    have hdec : decide (y ∈ delL xs (ys.take k)) = decide (y ∈ xs) := by
      rw [delL_eq]; simp [hyt]
    have hnx : delL xs (ys.take (k + 1)) = del y (delL xs (ys.take k)) := by rw [take_snoc' ys k y hy, delL_snoc]
    have HDROP := Lib.hid (fun W' (h : DSt w W W' B p Q u D (.slice A4 xs.length c4) (.slice A5 ys.length c5) (.slice A6 zs.length c6) (.slice A7 xs.length c7) vu xs ys zs (delL xs (ys.take k))) => h.drop (by omega) y)
    rw [hdec] at HDROP
    have HDS := Lib.hid hds
    have hdsd : DSt w W W.drew B p Q u D (.slice A4 xs.length c4) (.slice A5 ys.length c5) (.slice A6 zs.length c6) (.slice A7 xs.length c7) vu xs ys zs (delL xs (ys.take k)) := hds.below ((Only.drew (fun _ => False) W).below (Nat.le_refl _) (fun _ _ => id))
    have HDSD := Lib.hid hdsd
    have hcx := h1.cells.1
    have hcxd := hdsd.st.cells.1
    have HX := Lib.hid (show xs.length ≤ 30 by omega)
    have HNX := Lib.hid hnx
    have hmx : Try.prog.follows .mixedOrders = true := by kernel_rfl
    have hdep : 1 ≤ 3 - 1 - 1 := by omega
    clear hds hdsd h1 h2 h3 h4 h5 hdec hnx hyt hy hDd hDl HL5 HS8 HYS hll
    gi_wp2_with fail
    gi_region_with_o (first
      | (refine ⟨trivial, ?_⟩; gi_at_call 46; refine (CallsIn.inRound _ (callsIn_wide.2 (HDROP.out _ HDSD.out))).mono ?_; rintro e w9 ⟨v9, rfl, h9⟩; have hc9 := h9.st.cells.1; have H9 := Lib.hid h9; clear h9)
      | (refine ⟨trivial, ?_⟩; gi_at_call 47; refine (CallsIn.inRound _ (callsIn_wide.2 (H9.out.has HX.out y))).mono ?_; rintro e w10 ⟨rfl, h10⟩; have H10 := Lib.hid h10; clear h10))
    all_goals
      gi_wp2_with fail
      exact ⟨H10.out.kD, H10.out.kL, H10.out.st, by have h1 := H10.out.sz; omega, H10.out.it, v9, H10.out.bu, by rw [HNX.out]; exact H10.out.su, H10.out.ou⟩
  case stop => exact fun c k W h _ => h.elim
  case done =>
    rw [hD]
    rintro W ⟨h1, h0, h2, vu, h3, h4, h5⟩ hDd
    rw [List.take_of_length_le (Nat.le_refl _)] at h4
    subst hact
    have hcu : W.cell? ⟨u, 0, none⟩ = some vu := by rw [cell_of_blk _ _ _ _ _ h3]; rfl
    have HLEN := Lib.hid (lenB Q vu _ W h4)
    have HL1 := Lib.hid h1
    have HDD := Lib.hid hDd
    have hleft : (delL xs ys).length = (xs.filter (fun x => decide (x ∉ ys))).length := by rw [delL_eq]
    have HLEFT := Lib.hid hleft
    clear h1 h2 h3 h4 h5 hDd hleft HS8 HL5
    go_wp2_with fail
    refine HLEN.out.mono ?_
    rintro e w11 ⟨rfl, hb11⟩
    have hl11 := HL1.out.only (Only.of_below hb11) (fun k hk => by have := HL1.out.q; omega)
    have hd11 := (hb11.block D (Array.getElem?_eq_some_iff.1 HDD.out).1).trans HDD.out
    obtain ⟨W12, hW12⟩ : ∃ W12, W12 = w11.alloc (.cells #[.int .i64 0] 3) := ⟨_, rfl⟩
    have ho12 : Only (fun _ => False) w11 W12 := by rw [hW12]; exact Only.alloc _ _ _
    have hl12 := hl11.only ho12 (fun _ h => h.elim)
    have hpc12 : W12.heap[w11.heap.size]? = some (.cells #[.int .i64 0] 3 (0, 0)) := by rw [hW12]; exact heap_alloc_new w11 _
    have hd12 := (ho12.block D (Array.getElem?_eq_some_iff.1 hd11).1 id).trans hd11
    have hcx12 := hl12.cells.1
    rw [hW12] at hcx12
    have hD11 : D < w11.heap.size := (Array.getElem?_eq_some_iff.1 hd11).1
    have hQ11 := hl11.q
    clear HLEN HL1 HDD hb11 hl11 hd11
    go_wp2_with fail
    refine (all _ _).mono ?_
    rintro e w13 ⟨rfl, rfl⟩
    rw [World.size_alloc]
    obtain ⟨W13, hW13⟩ : ∃ W13, W13 = (w11.alloc (.cells #[.int .i64 0] 3)).alloc (.cells #[.slice A4 xs.length c4] 79) := ⟨_, rfl⟩
    rw [← hW13]
    rw [← hW12] at hW13
    have ho13 : Only (fun _ => False) W12 W13 := by rw [hW13]; exact Only.alloc _ _ _
    have hl13 := hl12.only ho13 (fun _ h => h.elim)
    have hpc13 := (ho13.block w11.heap.size (by rw [hW12]; simp) id).trans hpc12
    have hd13 := (ho13.block D (by rw [hW12]; simp; omega) id).trans hd12
    have hr13 : W13.heap[w11.heap.size + 1]? = some (.cells #[.slice A4 xs.length c4] 79 (0, 0)) := by
      rw [hW13]; have := heap_alloc_new W12 (.cells #[.slice A4 xs.length c4] 79); rw [hW12, World.size_alloc] at this; rw [hW12]; exact this
    have hsz13 : W13.heap.size = w11.heap.size + 2 := by rw [hW13, hW12]; simp
    clear hW12 hW13 ho12 ho13 hl12 hpc12 hd12 hcx12
    generalize w11.heap.size = q at *
    have HS13 := Lib.hid (And.intro hl13 (And.intro hpc13 (And.intro hr13 hd13)))
    clear hl13 hpc13 hr13 hd13
    go_wp2_with fail
    refine (wpIn_wide (n := 3)).1 ?_
    generalize hact : (Act.mk _ _ : Act) = a1
    obtain ⟨E, hE⟩ : ∃ E, W13.heap.size = E := ⟨_, rfl⟩
    obtain ⟨_, _, e4, _, hmax4, _⟩ := isset_cells HS13.out.1.s1
    refine wpIn_rf_steps (n := 3) rfl (by omega) (gf := 71) (lb := #[.pointer (some ⟨q + 1, 0, none⟩)]) (by rw [← hact]; rfl) trivial (enters_of Try.func71 (by kernel_rfl) rfl) (encs := encs xs) (N := xs.length) (fun _ => rfl)
      (Rd := fun W => CellsAt A4 xs W ∧ W.cell? ⟨q + 1, 0, none⟩ = some (.slice A4 xs.length c4))
      (fun J Jx hR hY W hJ => all_in 2 (q + 1) _ A4 c4 xs hmax4 J Jx (fun k W h => (hR k W h).1) hY W (hR 0 W hJ).2 hJ)
      (fun k W => LSt w W B p Q (.slice A4 xs.length c4) (.slice A5 ys.length c5) (.slice A6 zs.length c6) xs ys zs ∧ W13.heap.size ≤ W.heap.size ∧ W.heap[q + 1]? = some (.cells #[.slice A4 xs.length c4] 79 (0, 0)) ∧
        W.heap[q]? = some (.cells #[.int .i64 (((xs.take k).filter (fun x => decide (x ∈ ys))).length : Nat)] 3 (0, 0)) ∧ W.heap[D]? = some (.deferred (some [])))
      (fun _ _ _ => False)
      ?rd ?I ?Ix ?start (fun k a' W => ∃ y, xs[k]? = some y ∧ a' = Act.mk ((a1.tmps.setIfInBounds 52 (.int .u8 y)).setIfInBounds 15 (.int .u8 y)) []) ?Ax ?assign ?body ?done ?stop
    case rd =>
      rintro k W ⟨h1, h0, h2, _⟩
      obtain ⟨A, c, e, hc, _⟩ := isset_cells h1.s1
      cases e
      exact ⟨hc, by rw [cell_of_blk _ _ _ _ _ h2]; rfl⟩
    case I =>
      rw [hE]
      rintro k X Y ⟨h1, h0, h2, h3, h4⟩ hO
      exact ⟨h1.only hO (fun k hk => by omega), Nat.le_trans h0 hO.size, (hO.block _ (by omega) (by omega)).trans h2, (hO.block _ (by omega) (by omega)).trans h3, (hO.block _ (by omega) (by omega)).trans h4⟩
    case Ix => exact fun c k X Y h _ => h
    case start =>
      rintro W hO hlt
      obtain ⟨h1, h2, h3, h4⟩ := HS13.out
      exact ⟨h1.only hO (fun _ h => h.elim), hO.size, (hO.block _ (by omega) id).trans h3, (hO.block _ (by omega) id).trans h2, (hO.block _ (by omega) id).trans h4⟩
    case Ax => exact fun k a' A B h _ => h
    case assign =>
      intro k W K hk hI _ hK
      obtain ⟨y, hy⟩ : ∃ y, xs[k]? = some y := ⟨_, List.getElem?_eq_getElem hk⟩
      have HY := Lib.hid hy
      have he : encs xs k = #[.int .u8 y] := by simp [encs, hy]
      rw [he]
      clear hy he
      subst hact
      gi_wp2
      exact hK _ _ (Only.refl _ _) ⟨y, HY.out, rfl⟩
    case body =>
      rw [hE]
      rintro k a' W hk ⟨h1, h0, h2, h3, h4⟩ ⟨y, hy, rfl⟩ hDd ⟨r, hDl⟩
      subst hact
      simp only [List.setIfInBounds_toArray, List.set_cons_zero, List.set_cons_succ]
      have hcy := h1.cells.2.1
      have HH := Lib.hid (hasB B _ ys y W h1.s2 (by omega))
      have hE1 : E + 1 < W.heap.size := (Array.getElem?_eq_some_iff.1 hDl).1
      have htk : xs.take (k + 1) = xs.take k ++ [y] := take_snoc' xs k y hy
      have hcl : ((xs.take k).filter (fun x => decide (x ∈ ys))).length ≤ 30 := by
        have := List.length_filter_le (fun x => decide (x ∈ ys)) (xs.take k)
        simp at this ⊢; omega
      have hdep : 1 ≤ 3 - 1 - 1 := by omega
      have HALL := Lib.hid (And.intro h1 (And.intro h2 (And.intro h3 (And.intro h4 htk))))
      clear h1 h2 h3 h4 htk hy hDd hDl HS13 HLEFT HYS
      gi_wp2_with fail
      refine ⟨trivial, (CallsIn.inRound _ (callsIn_wide.2 HH.out)).mono ?_⟩
      rintro e w14 ⟨rfl, hb14⟩
      obtain ⟨h1, h2, h3, h4, htk⟩ := HALL.out
      have hsz := hb14.size
      have hl14 := h1.only (Only.of_below hb14) (fun k hk => by have := h1.q; omega)
      have h314 := (hb14.block q (by omega)).trans h3
      have h214 := (hb14.block (q + 1) (by omega)).trans h2
      have h414 := (hb14.block D (Array.getElem?_eq_some_iff.1 h4).1).trans h4
      have hkE := hb14.block E (by omega)
      have hkE1 := hb14.block (E + 1) (by omega)
      have hcq : w14.cell? ⟨q, 0, none⟩ = some (.int .i64 (((xs.take k).filter (fun x => decide (x ∈ ys))).length : Nat)) := by rw [cell_of_blk _ _ _ _ _ h314]; rfl
      have hfq : w14.frozen? ⟨q, 0, none⟩ = false := by simp [World.frozen?, h314]
      by_cases hym : y ∈ ys
      · have hd : decide (y ∈ ys) = true := decide_eq_true hym
        rw [hd]
        have hcnt : ((xs.take (k + 1)).filter (fun x => decide (x ∈ ys))).length = ((xs.take k).filter (fun x => decide (x ∈ ys))).length + 1 := by rw [htk]; simp [hym]
        generalize ((xs.take k).filter (fun x => decide (x ∈ ys))).length = cn at *
        have ho15 := Only.setCell w14 ⟨q, 0, none⟩ (.int .i64 ((cn : Int) + 1))
        have hpost : rfPost E (fun W => LSt w W B p Q (.slice A4 xs.length c4) (.slice A5 ys.length c5) (.slice A6 zs.length c6) xs ys zs ∧ E ≤ W.heap.size ∧ W.heap[q + 1]? = some (.cells #[.slice A4 xs.length c4] 79 (0, 0)) ∧
            W.heap[q]? = some (.cells #[.int .i64 (((xs.take (k + 1)).filter (fun x => decide (x ∈ ys))).length : Nat)] 3 (0, 0)) ∧ W.heap[D]? = some (.deferred (some []))) (fun _ _ => False) W .normal ⟨#[], []⟩ (w14.setCell ⟨q, 0, none⟩ (.int .i64 ((cn : Int) + 1))) := by
          refine ⟨(ho15.block E (by omega) (by show ¬ (E = q); omega)).trans hkE, (ho15.block (E + 1) (by omega) (by show ¬ (E + 1 = q); omega)).trans hkE1, hl14.only ho15 (fun k hk => by have e' : k = q := hk; omega), by have := ho15.size; omega, (ho15.block (q + 1) (by omega) (by show ¬ (q + 1 = q); omega)).trans h214, ?_, (ho15.block D (by have := (Array.getElem?_eq_some_iff.1 h414).1; omega) (by show ¬ (D = q); omega)).trans h414⟩
          rw [hcnt]
          simp [World.setCell, Array.getElem?_modify, h314]
        have HP := Lib.hid hpost
        clear hpost ho15 hl14 h314 h214 h414 hkE hkE1 HALL h1 h2 h3 h4 htk hb14 hcnt hd
        gi_wp2_with fail
        exact HP.out
      · have hd : decide (y ∈ ys) = false := decide_eq_false hym
        rw [hd]
        have hcnt : ((xs.take (k + 1)).filter (fun x => decide (x ∈ ys))).length = ((xs.take k).filter (fun x => decide (x ∈ ys))).length := by rw [htk]; simp [hym]
        have hpost := And.intro hkE (And.intro hkE1 (And.intro hl14 (And.intro (show E ≤ w14.heap.size by omega) (And.intro h214 (And.intro (hcnt ▸ h314) h414)))))
        have HP := Lib.hid hpost
        clear hpost hl14 h314 h214 h414 hkE hkE1 HALL h1 h2 h3 h4 htk hb14 hcnt hd
        gi_wp2_with fail
        exact HP.out
    case stop => exact fun c k W h _ => h.elim
    case done =>
      rw [hE]
      rintro W ⟨h1, h0, h2, h3, h4⟩ hDd
      rw [List.take_of_length_le (Nat.le_refl _)] at h3
      subst hact
      go_wp2_with fail
      have hE' : W.heap[E]? = some (.deferred (some [])) := hDd
      have hfst : FSt w W B p q D E Q (.slice A4 xs.length c4) (.slice A5 ys.length c5) (.slice A6 zs.length c6) xs ys zs ((xs.filter (fun x => decide (x ∈ ys))).length) :=
        ⟨h1.below, ⟨false, h1.ret⟩, h1.b1, h1.b2, h1.b3, h3, h4, hE', h1.s1, h1.s2, h1.s3, by have := h1.hp; omega, by have := HB.out; omega⟩
      have hxn : xs.Nodup := srt_nodup ordI h1.s1.srt
      have hj1 : decide (joinL xs ys = joinL ys xs) = true := decide_eq_true (srt_ext ordI _ _ (srt_joinL _ _ h1.s1.srt) (srt_joinL _ _ h1.s2.srt) (fun e => by rw [mem_joinL, mem_joinL]; exact Or.comm))
      have hj2 : decide (joinL (joinL xs ys) zs = joinL xs (joinL ys zs)) = true := decide_eq_true (srt_ext ordI _ _ (srt_joinL _ _ (srt_joinL _ _ h1.s1.srt)) (srt_joinL _ _ h1.s1.srt) (fun e => by simp only [mem_joinL]; exact or_assoc))
      have hj3 : decide (joinL xs xs = xs) = true := decide_eq_true (srt_ext ordI _ _ (srt_joinL _ _ h1.s1.srt) h1.s1.srt (fun e => by simp only [mem_joinL]; exact or_self_iff))
      have hsum := common_left xs ys
      have hsum2 := joinL_common xs ys hxn HYS.out
      rw [← HLEFT.out] at hsum
      have hd1 := (joinL_len xs ys).2
      have hdz := (joinL_len ys zs).2
      have hdx := (joinL_len xs xs).2
      generalize hcn : (xs.filter (fun x => decide (x ∈ ys))).length = cn at *
      generalize hdl : (delL xs ys).length = dl at *
      have hx30 : xs.length ≤ 30 := by omega
      have hy30 : ys.length ≤ 30 := by omega
      have hz30 : zs.length ≤ 30 := by omega
      have hw1 : IntKind.i64.wrap ((dl : Int) + (cn : Int)) = (xs.length : Int) := by
        rw [show (dl : Int) + (cn : Int) = (xs.length : Int) by omega]
        simp [IntKind.wrap, IntKind.bits, IntKind.signed]; omega
      have hw2 : IntKind.i64.wrap (((joinL xs ys).length : Int) + (cn : Int)) = (xs.length : Int) + (ys.length : Int) := by
        rw [show ((joinL xs ys).length : Int) + (cn : Int) = (xs.length : Int) + (ys.length : Int) by omega]
        simp [IntKind.wrap, IntKind.bits, IntKind.signed]; omega
      have hw3 : IntKind.i64.wrap ((xs.length : Int) + (ys.length : Int)) = (xs.length : Int) + (ys.length : Int) := by
        simp [IntKind.wrap, IntKind.bits, IntKind.signed]; omega
      have hS := hfst.all
      clear h1 h2 h3 h4 hfst hDd hE' hcn hdl HS13 HYS HLEFT HA hmax4 hmax5 hxn hsum hsum2
      go_region_held3 (fun W => FSt w W B p q D E Q (.slice A4 xs.length c4) (.slice A5 ys.length c5) (.slice A6 zs.length c6) xs ys zs cn ∧ W.cell? ⟨p, 0, none⟩ = some (.slice A4 xs.length c4) ∧ W.cell? ⟨p + 1, 0, none⟩ = some (.slice A5 ys.length c5) ∧ W.cell? ⟨p + 1 + 1, 0, none⟩ = some (.slice A6 zs.length c6) ∧ W.cell? ⟨q, 0, none⟩ = some (.int .i64 (cn : Int)) ∧
          W.cell? ⟨B, 0, none⟩ = some (retv B W) ∧ W.frozen? ⟨B, 0, none⟩ = false)
        (first | assumption | exact (FSt.drew (And.left (by assumption))).all | exact (FSt.later (And.left (by assumption)) (by assumption)).all | exact (FSt.store (And.left (by assumption)) _).all)
        (first
          | (go_at_call 42
             refine (joined _ _ _ _ _ _ _
               (by first | exact FSt.s1 (And.left (by assumption)) | exact FSt.s2 (And.left (by assumption)) | exact FSt.s3 (And.left (by assumption)) | assumption | exact isset_later (by assumption) (by assumption) | exact isset_later (by assumption) (below_step (by assumption) (by assumption)))
               (by first | exact FSt.s1 (And.left (by assumption)) | exact FSt.s2 (And.left (by assumption)) | exact FSt.s3 (And.left (by assumption)) | assumption | exact isset_later (by assumption) (by assumption) | exact isset_later (by assumption) (below_step (by assumption) (by assumption))) (by omega)).mono ?_
             rintro e w15 ⟨v15, rfl, hs15, hb15⟩)
          | (go_at_call 49
             refine (same _ _ _ _ _ _ _
               (by first | exact FSt.s1 (And.left (by assumption)) | assumption | exact isset_later (by assumption) (by assumption) | exact isset_later (by assumption) (below_step (by assumption) (by assumption)))
               (by first | exact FSt.s1 (And.left (by assumption)) | assumption | exact isset_later (by assumption) (by assumption) | exact isset_later (by assumption) (below_step (by assumption) (by assumption)))).mono ?_
             rintro e w15 ⟨rfl, hb15⟩)
          | (go_at_call 48
             refine (lenB _ _ _ _
               (by first | exact FSt.s1 (And.left (by assumption)) | exact FSt.s2 (And.left (by assumption)) | assumption | exact isset_later (by assumption) (by assumption))).mono ?_
             rintro e w15 ⟨rfl, hb15⟩))
      rename_i hfin
      obtain ⟨hf, _, _, _, _, _, _⟩ := hfin
      have hcB : (w15.setCell ⟨B, 0, none⟩ (.bool true)).cell? ⟨B, 0, none⟩ = some (.bool true) := by
        obtain ⟨b, hr⟩ := hf.ret
        have h2 := hr
        simp [World.setCell, Array.getElem?_modify] at h2
        obtain ⟨o, ho, h2⟩ := h2
        cases o <;> simp at h2
        rename_i cs0 t0 f0
        obtain ⟨h2, _, _⟩ := h2
        refine World.cell?_setCell_same' _ _ _ ?_
        rw [cell_of_blk _ _ _ _ _ ho]
        have : cs0.size = 1 := by
          have := congrArg Array.size h2
          simpa using this
        simp [this]
      generalize w15.setCell ⟨B, 0, none⟩ (.bool true) = Wf at *
      clear hS
      go_wp2
      have hhp := hf.hp
      have hBw := hf.below.size
      have hwB := HB.out
      have hEs : E < Wf.heap.size := (Array.getElem?_eq_some_iff.1 hf.kE).1
      have hP1 := Only.putObj Wf E (.deferred none)
      have hD2 : (Wf.putObj E (.deferred none)).heap[D]? = some (.deferred (some [])) := (World.putObj_heap_other (by omega)).trans hf.kD
      have hP2 := Only.putObj (Wf.putObj E (.deferred none)) D (.deferred none)
      have hq : ((Wf.putObj E (.deferred none)).putObj D (.deferred none)).cell? ⟨B, 0, none⟩ = some (.bool true) := by
        rw [hP2.cell (p := ⟨B, 0, none⟩) (by simp; omega) (by show ¬ (B = D); omega), hP1.cell (p := ⟨B, 0, none⟩) (by show B < _; omega) (by show ¬ (B = E); omega)]
        exact hcB
      refine ⟨by simp, .inl ⟨_, _, rfl, run_takeDeferred hf.kE, ?_⟩⟩
      refine ⟨by simp, .inl ⟨_, _, rfl, run_takeDeferred hD2, ?_⟩⟩
      refine ⟨_, by simp [results, Try.results9, go_sem, hq], rfl, ?_⟩
      rw [HB.out]
      exact (hf.below.trans (hP1.below (by omega) (fun k hk e => by omega))).trans (hP2.below (by simp; omega) (fun k hk e => by omega))
theorem laws_far (A1 A2 A3 : Option Addr) (n1 n2 n3 c1 c2 c3 : Nat) (w : World) (h : 30 < n1 ∨ 30 < n2 ∨ 30 < n3) :
    Calls Try.prog 9 #[.slice A1 n1 c1, .slice A2 n2 c2, .slice A3 n3 c3] w fun e w' => e = .returned (.bool true) ∧ Below w.heap.size w w' := by
  have hW0 : (w.alloc (.cells #[.bool false] 4)).heap[w.heap.size]? = some (.cells #[.bool false] 4 (0, 0)) := heap_alloc_new w _
  have hfin : ∀ w1, Below (w.alloc (.cells #[.bool false] 4)).heap.size (w.alloc (.cells #[.bool false] 4)) w1 → w1.cell? ⟨w.heap.size, 0, none⟩ = some (.bool false) ∧ w1.frozen? ⟨w.heap.size, 0, none⟩ = false ∧
      (w1.setCell ⟨w.heap.size, 0, none⟩ (.bool true)).cell? ⟨w.heap.size, 0, none⟩ = some (.bool true) ∧ Below w.heap.size w (w1.setCell ⟨w.heap.size, 0, none⟩ (.bool true)) := fun w1 hb => by
    have h1 := (hb.block w.heap.size (by simp)).trans hW0
    refine ⟨by rw [cell_of_blk _ _ _ _ _ h1]; rfl, by simp [World.frozen?, h1], World.cell?_setCell_same' _ _ _ (by rw [cell_of_blk _ _ _ _ _ h1]; rfl), ?_⟩
    exact (((Below.refl w.heap.size w).alloc (Nat.le_refl _) _).trans (hb.mono (by simp))).setCell (Nat.le_refl _) _
  have HF := Lib.hid hfin
  clear hfin hW0
  have key : ∀ b1 b2 b3 : Bool, decide ((30 : Int) < (n1 : Int)) = b1 → decide ((30 : Int) < (n2 : Int)) = b2 → decide ((30 : Int) < (n3 : Int)) = b3 → (b1 || b2 || b3) = true →
      Calls Try.prog 9 #[.slice A1 n1 c1, .slice A2 n2 c2, .slice A3 n3 c3] w fun e w' => e = .returned (.bool true) ∧ Below w.heap.size w w' := by
    intro b1 b2 b3 e1 e2 e3 hb
    cases b1 <;> cases b2 <;> cases b3 <;> first | (simp at hb; done) | skip
    all_goals
      clear hb h
      go_enter Try.func9, Try.ntmps9
      go_wp2_with fail
      refine (awake _).mono ?_
      rintro e w1 ⟨rfl, hb1⟩
      obtain ⟨f1, f2, f3, f4⟩ := HF.out w1 hb1
      clear hb1
      go_wp2
      refine bodyPost_ret (by simp [results, Try.results9, go_sem, f3]) rfl ⟨rfl, f4⟩
  refine key _ _ _ rfl rfl rfl ?_
  simp
  omega
theorem laws_all (A1 A2 A3 : Option Addr) (n1 n2 n3 c1 c2 c3 : Nat) (l1 l2 l3 : List Int) (w : World) (e1 : l1.length = n1) (e2 : l2.length = n2) (e3 : l3.length = n3)
    (hA1 : ∀ (i : Nat) (hi : i < l1.length), ∃ g o, A1 = some ⟨g, o, none⟩ ∧ g < w.heap.size ∧ w.cell? ⟨g, o + i, none⟩ = some (.int .u8 l1[i]))
    (hA2 : ∀ (i : Nat) (hi : i < l2.length), ∃ g o, A2 = some ⟨g, o, none⟩ ∧ g < w.heap.size ∧ w.cell? ⟨g, o + i, none⟩ = some (.int .u8 l2[i]))
    (hA3 : ∀ (i : Nat) (hi : i < l3.length), ∃ g o, A3 = some ⟨g, o, none⟩ ∧ g < w.heap.size ∧ w.cell? ⟨g, o + i, none⟩ = some (.int .u8 l3[i])) :
    Calls Try.prog 9 #[.slice A1 n1 c1, .slice A2 n2 c2, .slice A3 n3 c3] w fun e w' => e = .returned (.bool true) ∧ Below w.heap.size w w' := by
  by_cases h : 30 < n1 ∨ 30 < n2 ∨ 30 < n3
  · exact laws_far A1 A2 A3 n1 n2 n3 c1 c2 c3 w h
  · subst e1 e2 e3
    refine laws_walk A1 A2 A3 c1 c2 c3 l1 l2 l3 w (by simp; omega) (by simp; omega) (by simp; omega) (by omega) (by omega) (by omega) (fun i hi => ?_) (fun i hi => ?_) (fun i hi => ?_)
    · obtain ⟨g, o, e, _, hc⟩ := hA1 i hi; exact ⟨g, o, e, hc⟩
    · obtain ⟨g, o, e, _, hc⟩ := hA2 i hi; exact ⟨g, o, e, hc⟩
    · obtain ⟨g, o, e, _, hc⟩ := hA3 i hi; exact ⟨g, o, e, hc⟩
end Go.Proofs.Yteojcdpmlhlfaaa
