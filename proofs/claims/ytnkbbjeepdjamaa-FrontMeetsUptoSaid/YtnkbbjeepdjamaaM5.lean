/- A block of numbers in memory, each known. No condition. -/
import Derived.Test.YtnkbbjeepdjamaaM2
import Derived.Test.YtnkbbjeepdjamaaGNew
import Derived.Test.YtnkbbjeepdjamaaShelf
import Derived.Laws.CopyOwn
import Derived.RegionTactic
import Derived.ChangeAlike
import Derived.LoopTactic
import Derived.Outline
import Derived.StillTailTactics
import Derived.Test.YtnkbbjeepdjamaaM1
namespace Go.Proofs.Ytnkbbjeepdjamaa
open Go.RowKit
def zv (x : Int) : Value := .int .i64 x
/-- A block of numbers. -/
def Ints (w : World) (q : Nat) (l : List Int) : Prop := w.heap[q]? = some (.cells (l.map zv).toArray 3 (0, 0))
theorem Ints.only {w w' : World} {q : Nat} {l : List Int} {T : Nat → Prop} (h : Ints w q l) (ho : Only T w w') (hn : ¬ T q) : Ints w' q l := (ho.block q (lt_blk h) hn).trans h
theorem Ints.later {w w' : World} {q : Nat} {l : List Int} (h : Ints w q l) (hb : Below w.heap.size w w') : Ints w' q l := (hb.block q (lt_blk h)).trans h
theorem Ints.cell {w : World} {q : Nat} {l : List Int} (h : Ints w q l) {i : Nat} {x : Int} (hi : l[i]? = some x) : w.cell? ⟨q, i, none⟩ = some (.int .i64 x) := by
  rw [cell_of_blk _ _ _ _ _ h]
  simp [hi, zv]
theorem Ints.frozen {w : World} {q : Nat} {l : List Int} (h : Ints w q l) (i : Nat) : w.frozen? ⟨q, i, none⟩ = false := by
  have h' : w.heap[q]? = some (.cells (l.map zv).toArray 3 (0, 0)) := h
  simp [World.frozen?, h']
theorem Ints.set {w : World} {q : Nat} {l : List Int} (h : Ints w q l) (i : Nat) (x : Int) : Ints (w.setCell ⟨q, i, none⟩ (.int .i64 x)) q (l.set i x) := by
  have h' : w.heap[q]? = some (.cells (l.map zv).toArray 3 (0, 0)) := h
  have e : (l.set i x).map zv = (l.map zv).set i (zv x) := by rw [List.map_set]
  unfold Ints
  rw [e, show ((l.map zv).set i (zv x)).toArray = (l.map zv).toArray.setIfInBounds i (zv x) by simp]
  simp [World.setCell, Array.getElem?_modify, h', zv]
theorem Ints.ne {w : World} {q p : Nat} {l : List Int} {cs : Array Value} {t : TypeId} {f : Nat × Nat} (h : Ints w q l) (hp : w.heap[p]? = some (.cells cs t f)) (hne : 3 ≠ t) : q ≠ p := fun e => by
  subst e
  exact blk_ne h hp hne rfl
/-- As a row. -/
theorem Ints.cells {w : World} {q : Nat} {l : List Int} (h : Ints w q l) (i : Nat) (hi : i < l.length) : w.cell? ⟨q, i, none⟩ = some (.int .i64 l[i]) := h.cell (List.getElem?_eq_getElem hi)
end Go.Proofs.Ytnkbbjeepdjamaa
/- dom.finder in memory. No condition. -/
namespace Go.Proofs.Ytnkbbjeepdjamaa
open Go.RowKit
/-- The finder's block, and its four blocks of numbers. -/
structure FM (w : World) (F n : Nat) (vv : Value) (qp qs qr ql : Nat) (par semi root label : List Int) : Prop where
  blk : w.heap[F]? = some (.cells #[vv, .slice (some ⟨qp, 0, none⟩) n n, .slice (some ⟨qs, 0, none⟩) n n, .slice (some ⟨qr, 0, none⟩) n n, .slice (some ⟨ql, 0, none⟩) n n] 83 (0, 0))
  par : Ints w qp par
  semi : Ints w qs semi
  root : Ints w qr root
  label : Ints w ql label
  ne : qp ≠ qs ∧ qp ≠ qr ∧ qp ≠ ql ∧ qs ≠ qr ∧ qs ≠ ql ∧ qr ≠ ql
section
variable {w w' : World} {F n : Nat} {vv : Value} {qp qs qr ql : Nat} {par semi root label : List Int}
theorem FM.only {T : Nat → Prop} (h : FM w F n vv qp qs qr ql par semi root label) (ho : Only T w w') (hF : ¬ T F) (hp : ¬ T qp) (hs : ¬ T qs) (hr : ¬ T qr) (hl : ¬ T ql) : FM w' F n vv qp qs qr ql par semi root label :=
  ⟨(ho.block F (lt_blk h.blk) hF).trans h.blk, h.par.only ho hp, h.semi.only ho hs, h.root.only ho hr, h.label.only ho hl, h.ne⟩
theorem FM.later (h : FM w F n vv qp qs qr ql par semi root label) (hb : Below w.heap.size w w') : FM w' F n vv qp qs qr ql par semi root label := by
  have h1 := lt_blk h.blk
  have h2 := lt_blk h.par
  have h3 := lt_blk h.semi
  have h4 := lt_blk h.root
  have h5 := lt_blk h.label
  exact h.only (Only.of_below hb) (by omega) (by omega) (by omega) (by omega) (by omega)
theorem FM.drewN (h : FM w F n vv qp qs qr ql par semi root label) (m : Nat) : FM (w.drewN m) F n vv qp qs qr ql par semi root label := h.only (Only.drewN (fun _ => False) w m) id id id id id
theorem FM.nF (h : FM w F n vv qp qs qr ql par semi root label) : qp ≠ F ∧ qs ≠ F ∧ qr ≠ F ∧ ql ≠ F := ⟨h.par.ne h.blk (by decide), h.semi.ne h.blk (by decide), h.root.ne h.blk (by decide), h.label.ne h.blk (by decide)⟩
theorem FM.cell (h : FM w F n vv qp qs qr ql par semi root label) : w.cell? ⟨F, 0, none⟩ = some vv ∧ w.cell? ⟨F, 1, none⟩ = some (.slice (some ⟨qp, 0, none⟩) n n) ∧ w.cell? ⟨F, 2, none⟩ = some (.slice (some ⟨qs, 0, none⟩) n n) ∧ w.cell? ⟨F, 3, none⟩ = some (.slice (some ⟨qr, 0, none⟩) n n) ∧ w.cell? ⟨F, 4, none⟩ = some (.slice (some ⟨ql, 0, none⟩) n n) := by
  have h1 := h.blk
  refine ⟨?_, ?_, ?_, ?_, ?_⟩ <;> (rw [cell_of_blk _ _ _ _ _ h1]; rfl)
theorem FM.frozen (h : FM w F n vv qp qs qr ql par semi root label) (i : Nat) : w.frozen? ⟨F, i, none⟩ = false := by
  have h1 := h.blk
  simp [World.frozen?, h1]
theorem FM.setR (h : FM w F n vv qp qs qr ql par semi root label) (i : Nat) (x : Int) : FM (w.setCell ⟨qr, i, none⟩ (.int .i64 x)) F n vv qp qs qr ql par semi (root.set i x) label := by
  have ho := Only.setCell w ⟨qr, i, none⟩ (.int .i64 x)
  have hn := h.nF
  have hne := h.ne
  exact ⟨(ho.block F (lt_blk h.blk) (fun e => hn.2.2.1 e.symm)).trans h.blk, h.par.only ho hne.2.1, h.semi.only ho hne.2.2.2.1, h.root.set i x, h.label.only ho (fun e => hne.2.2.2.2.2 e.symm), hne⟩
theorem FM.setL (h : FM w F n vv qp qs qr ql par semi root label) (i : Nat) (x : Int) : FM (w.setCell ⟨ql, i, none⟩ (.int .i64 x)) F n vv qp qs qr ql par semi root (label.set i x) := by
  have ho := Only.setCell w ⟨ql, i, none⟩ (.int .i64 x)
  have hn := h.nF
  have hne := h.ne
  exact ⟨(ho.block F (lt_blk h.blk) (fun e => hn.2.2.2 e.symm)).trans h.blk, h.par.only ho hne.2.2.1, h.semi.only ho hne.2.2.2.2.1, h.root.only ho hne.2.2.2.2.2, h.label.set i x, hne⟩
theorem FM.setS (h : FM w F n vv qp qs qr ql par semi root label) (i : Nat) (x : Int) : FM (w.setCell ⟨qs, i, none⟩ (.int .i64 x)) F n vv qp qs qr ql par (semi.set i x) root label := by
  have ho := Only.setCell w ⟨qs, i, none⟩ (.int .i64 x)
  have hn := h.nF
  have hne := h.ne
  exact ⟨(ho.block F (lt_blk h.blk) (fun e => hn.2.1 e.symm)).trans h.blk, h.par.only ho hne.1, h.semi.set i x, h.root.only ho (fun e => hne.2.2.2.1 e.symm), h.label.only ho (fun e => hne.2.2.2.2.1 e.symm), hne⟩
theorem FM.setP (h : FM w F n vv qp qs qr ql par semi root label) (i : Nat) (x : Int) : FM (w.setCell ⟨qp, i, none⟩ (.int .i64 x)) F n vv qp qs qr ql (par.set i x) semi root label := by
  have ho := Only.setCell w ⟨qp, i, none⟩ (.int .i64 x)
  have hn := h.nF
  have hne := h.ne
  exact ⟨(ho.block F (lt_blk h.blk) (fun e => hn.1 e.symm)).trans h.blk, h.par.set i x, h.semi.only ho (fun e => hne.1 e.symm), h.root.only ho (fun e => hne.2.1 e.symm), h.label.only ho (fun e => hne.2.2.1 e.symm), hne⟩
/-- Another row of places met. -/
theorem FM.setV (h : FM w F n vv qp qs qr ql par semi root label) (v' : Value) : FM (w.setCell ⟨F, 0, none⟩ v') F n v' qp qs qr ql par semi root label := by
  have ho := Only.setCell w ⟨F, 0, none⟩ v'
  have hn := h.nF
  have hb := h.blk
  refine ⟨?_, h.par.only ho hn.1, h.semi.only ho hn.2.1, h.root.only ho hn.2.2.1, h.label.only ho hn.2.2.2, h.ne⟩
  simp [World.setCell, Array.getElem?_modify, hb]
end
end Go.Proofs.Ytnkbbjeepdjamaa
/- slices.Repeat of one number: a block of so many of it. Conditions: at least one, few. -/
namespace Go.Proofs.Ytnkbbjeepdjamaa
open Go.RowKit Go.Lib
theorem step_copy_run {P : Program} {ops : Array Oper} {o : Oper} {a : Act} {w : World} {K : Act → World → Prop} {Q : Exit → Act → World → Prop} {E : Prop}
    (hg : o.guard = none) (d x : Operand) (dT sT : TypeId) (hop : o.op = Op.call { callee := Callee.builtin Builtin.copy, args := #[d, x], argTypes := #[dT, sT] })
    (v u : Value) (hd : a.eval d = v) (hx : a.eval x = u) {v' : Value} {w' : World} (hr : (Builtin.copy_ #[dT, sT] o.type #[v, u]).run P w = .ok v' w') (hK : K (a.put o.dst v') w') :
    if Region.wanted o (yielded ops a.tmps) = true then Oper.wp P o a w K Q else E := by
  have hw : Region.wanted o (yielded ops a.tmps) = true := by simp [Region.wanted, hg]
  rw [if_pos hw]
  unfold Oper.wp
  simp [execOp, hop, resolve, invoke, builtin, hd, hx, hr, Result.andThen]
  exact hK
/-- Numbers are copied into a block of numbers. -/
theorem copy_ints {w : World} {q : Nat} {l : List Int} (h : Ints w q l) (k m : Nat) (x : Int) (hk : k + m ≤ l.length) (ad : Addr) (hsrc : ∀ j, j < m → w.cell? (ad.add j) = some (.int .i64 x)) (ty : TypeId) (dLen dCap sLen sCap : Nat) (hm : m = Nat.min sLen dLen) :
    ∃ w', (Builtin.copy_ #[31, 31] ty #[.slice (some ⟨q, k, none⟩) dLen dCap, .slice (some ad) sLen sCap]).run Try.prog w = .ok (.int .i64 m) w' ∧ Ints w' q (l.take k ++ List.replicate m x ++ l.drop (k + m)) ∧ Only (fun g => g = q) w w' := by
  have hs : (Try.prog.info? 3).map (·.size) = some 1 := by kernel_rfl
  have h0 : w.heap[q]? = some (.cells (l.map zv).toArray 3 (0, 0)) := h
  have hr := run_copy_row (P := Try.prog) w 31 31 ty 3 q k dLen dCap ad sLen sCap (l.map zv).toArray 3 (List.replicate m (zv x)) Try.underlying31 hs h0 (by simpa using hm) (fun j v hj => by
    rw [List.getElem?_replicate] at hj
    split at hj
    · rw [← Option.some.inj hj]; exact hsrc j (by assumption)
    · cases hj) (by simpa using hk) (fun v hv => by rw [List.eq_of_mem_replicate hv]; rfl)
  refine ⟨w.setRow q ((l.map zv).toArray.toList.take k ++ List.replicate m (zv x) ++ (l.map zv).toArray.toList.drop (k + (List.replicate m (zv x)).length)).toArray, by rw [hr]; simp [goInt], ?_, ⟨rfl, rfl, rfl, by simp [World.setRow], fun g _ hg => ?_⟩⟩
  · have := setRow_heap w q (l.map zv).toArray ((l.map zv).toArray.toList.take k ++ List.replicate m (zv x) ++ (l.map zv).toArray.toList.drop (k + (List.replicate m (zv x)).length)).toArray 3 (0, 0) h0
    unfold Ints
    rw [this]
    simp [List.map_take, List.map_drop]
  · simp only [World.setRow, Array.getElem?_modify]
    rw [if_neg (fun e => hg e.symm)]
def zeroInts (n : Nat) : Obj := .cells ((List.replicate n (0 : Int)).map zv).toArray 3
theorem mk_ints (n : Nat) (hn : n ≤ 1048576) (w : World) : (Instr.makeSlice 31 (.int .i64 (n : Int)) (.int .i64 (n : Int))).run Try.prog w = .ok (.slice (some ⟨w.heap.size, 0, none⟩) n n) (w.alloc (zeroInts n)) := by
  obtain ⟨i0, hi0, hz0, hz1, hz2⟩ := info_parts infoI
  have h := run_make (P := Try.prog) w 31 3 i0 _ Try.underlying31 hi0 hz0 .i64 .i64 n n (by omega) (Int.le_refl _) (by rw [hz2]; omega) (by omega)
  rw [h, hz1, Int.toNat_natCast, Nat.mul_one]
  unfold zeroInts
  have e : (madeCells (Value.cells (.int .i64 0)) n) = ((List.replicate n (0 : Int)).map zv).toArray := by
    apply Array.toList_inj.1
    rw [show Value.cells (.int .i64 0) = #[.int .i64 0] from rfl, toList_madeCells_one]
    simp [zv]
  rw [e]
/-- The first so many are it. -/
def Filled (x : Int) (n k : Nat) (l : List Int) : Prop := l.length = n ∧ k ≤ n ∧ ∀ i, i < k → l[i]? = some x
theorem Filled.copy {x : Int} {n k m : Nat} {l : List Int} (h : Filled x n k l) (hm : k + m ≤ n) : Filled x n (k + m) (l.take k ++ List.replicate m x ++ l.drop (k + m)) := by
  obtain ⟨h1, h2, h3⟩ := h
  refine ⟨by simp; omega, hm, fun i hi => ?_⟩
  by_cases hik : i < k
  · rw [List.append_assoc, List.getElem?_append_left (by simp; omega), List.getElem?_take, if_pos hik]
    exact h3 i hik
  · rw [List.append_assoc, List.getElem?_append_right (by simp; omega), List.getElem?_append_left (by simp; omega), List.getElem?_replicate, if_pos (by simp; omega)]
theorem Filled.all {x : Int} {n : Nat} {l : List Int} (h : Filled x n n l) : l = List.replicate n x := by
  obtain ⟨h1, _, h3⟩ := h
  apply List.ext_getElem?
  intro i
  rw [List.getElem?_replicate]
  by_cases hi : i < n
  · rw [if_pos hi, h3 i hi]
  · rw [if_neg hi, List.getElem?_eq_none (by omega)]
theorem bits_Mul_one (n : Nat) (hn : n ≤ 1048576) (w : World) : Calls Try.prog 73 #[.int .u64 1, .int .u64 n] w fun e w' => e = .returned (.tuple #[.int .u64 0, .int .u64 n]) ∧ w' = w := by
  refine (Try.bits_Mul 1 n (by omega) (by omega) w).mono ?_
  rintro e w' ⟨rfl, rfl⟩
  have h0 : 1 * n / 18446744073709551616 = 0 := by omega
  have h1 : 1 * n % 18446744073709551616 = n := by omega
  rw [h0, h1]
  exact ⟨rfl, rfl⟩
set_option maxRecDepth 100000 in
set_option maxHeartbeats 4000000 in
theorem repeat_calls (n : Nat) (h1 : 1 ≤ n) (hn : n ≤ 1048575) (g o c : Nat) (x : Int) (w : World) (hx : w.cell? ⟨g, o, none⟩ = some (.int .i64 x)) :
    Calls Try.prog 50 #[.slice (some ⟨g, o, none⟩) 1 c, .int .i64 n] w fun e w' => ∃ q, e = .returned (.slice (some ⟨q, 0, none⟩) n n) ∧ Ints w' q (List.replicate n x) ∧ w.heap.size ≤ q ∧ Below w.heap.size w w' := by
  have hmk := mk_ints n (by omega) w
  have n0 : ¬ ((n : Int) < 0) := by omega
  have hmul := bits_Mul_one n (by omega) w
  have hwi : IntKind.i64.wrap (n : Int) = (n : Int) := by rw [IntKind.wrap_i64]; omega
  have HX := Lib.hid hx
  clear hx
  go_enter Try.func50, Try.ntmps50
  go_wp2_with fail
  refine hmul.mono ?_
  rintro e w1 ⟨rfl, rfl⟩
  have hi0 : Ints (w1.alloc (zeroInts n)) w1.heap.size (List.replicate n 0) := heap_alloc_new' w1 (zeroInts n)
  obtain ⟨W2, hc1, hi2, ho2⟩ := copy_ints hi0 0 1 x (by simp; omega) ⟨g, o, none⟩ (fun j hj => by
    obtain rfl : j = 0 := by omega
    rw [show (⟨g, o, none⟩ : Addr).add 0 = ⟨g, o, none⟩ by simp [Addr.add]]
    exact ((Only.alloc (fun _ => False) w1 _).cell (p := ⟨g, o, none⟩) (World.block_lt_of_cell? w1 _ HX.out) id).trans HX.out) 3 n n 1 c (by simp only [Nat.min_def]; split <;> omega)
  have hfl : Filled x n 1 ((List.replicate n (0 : Int)).take 0 ++ List.replicate 1 x ++ (List.replicate n (0 : Int)).drop (0 + 1)) := by
    have := (show Filled x n 0 (List.replicate n 0) from ⟨by simp, by omega, fun i hi => by omega⟩).copy (m := 1) (by omega)
    simpa using this
  have hb2 : Below w1.heap.size w1 W2 := ((Below.refl _ _).alloc (Nat.le_refl _) _).trans (ho2.below (by simp) (fun k hk e => by omega))
  obtain ⟨q, hq⟩ : ∃ q, w1.heap.size = q := ⟨_, rfl⟩
  rw [hq] at hi2 ho2
  have hc1' : (Builtin.copy_ #[31, 31] 3 #[.slice (some ⟨w1.heap.size, 0, none⟩) n n, .slice (some ⟨g, o, none⟩) 1 c]).run Try.prog (w1.alloc (zeroInts n)) = .ok (.int .i64 1) W2 := hc1
  have H2 := Lib.hid (show (∃ l, Ints W2 q l ∧ Filled x n 1 l) ∧ Below w1.heap.size w1 W2 ∧ w1.heap.size = q from ⟨⟨_, hi2, hfl⟩, hb2, hq⟩)
  have pp1 : ¬ (9223372036854775807 : Int) < (n : Int) := by omega
  clear hi0 hc1 hi2 ho2 hfl hb2 hmul HX hq
  go_wp2_with fail
  rw [H2.out.2.2]
  clear hmk hc1' pp1
  go_loopw [8] (fun i wr => ∃ k : Nat, i = .int .i64 (k : Int) ∧ Hid (1 ≤ k ∧ k ≤ n ∧ (∃ l, Ints wr q l ∧ Filled x n k l) ∧ Below w1.heap.size w1 wr)) (fun i _ => n - (intOf i).toNat)
  case atStart => exact ⟨1, rfl, Lib.hid ⟨Nat.le_refl _, h1, H2.out.1, H2.out.2.1⟩⟩
  case round =>
    obtain ⟨k, rfl, HI⟩ := hrel
    obtain ⟨hk1, hkn, ⟨l, hil, hfl⟩, hbl⟩ := HI.out
    clear HI
    by_cases hk : k < n
    · have pp2 : ((k : Int) < (n : Int)) = True := eq_true (by omega)
      obtain ⟨m, hm⟩ : ∃ m, Nat.min k (n - k) = m := ⟨_, rfl⟩
      have hm1 : 1 ≤ m ∧ k + m ≤ n ∧ m ≤ k := by simp only [Nat.min_def] at hm; split at hm <;> omega
      obtain ⟨W3, hc2, hi3, ho3⟩ := copy_ints (hil.only (Only.drewN (fun _ => False) wr 1) id) k m x (by have := hfl.1; omega) ⟨q, 0, none⟩ (fun j hj => by
        rw [Addr.add_lit, Nat.zero_add]
        exact (hil.only (Only.drewN (fun _ => False) wr 1) id).cell (hfl.2.2 j (by omega))) 3 (n - k) (n - k) k n hm.symm
      have hb3 : Below w1.heap.size w1 W3 := hbl.trans (((Only.drewN (fun k => k = q) wr 1).trans ho3 (fun _ _ e => e)).below hbl.size (fun j hj e => by have := H2.out.2.2; omega))
      have HC := Lib.hid (show (Builtin.copy_ #[31, 31] 3 #[.slice (some ⟨q, k, none⟩) (n - k) (n - k), .slice (some ⟨q, 0, none⟩) k n]).run Try.prog wr.drew = .ok (.int .i64 m) W3 from hc2)
      clear hc2
      have H3 := Lib.hid (And.intro hi3 (And.intro (hfl.copy hm1.2.1) hb3))
      have k0 : 0 ≤ (k : Int) := by omega
      have k1 : (k : Int) ≤ (n : Int) := by omega
      have k2 : ¬ (k : Int) = (n : Int) := by omega
      have hkk : ¬ n = k := by omega
      have hw : IntKind.i64.wrap ((k : Int) + (m : Int)) = (k : Int) + (m : Int) := by rw [IntKind.wrap_i64]; omega
      clear hil hfl hbl hi3 ho3 hb3 hm H2
      go_wp2_with fail
      go_region_law (refine step_copy_run rfl _ _ 31 31 rfl _ _ (by simp [Act.eval, Act.put]) (by simp [Act.eval, Act.put]) HC.out ?_)
      clear hw hkk k2
      simp only [List.getElem_toArray, List.getElem_cons_zero, List.getElem_cons_succ, Act.put, List.setIfInBounds_toArray, List.set_cons_zero, List.set_cons_succ]
      go_wp2_with fail
      go_roundw
      case rel => exact ⟨k + m, by go_num, Lib.hid ⟨by omega, by omega, ⟨_, H3.out.1, H3.out.2.1⟩, H3.out.2.2⟩⟩
      case measure => simp [intOf]; omega
    · obtain rfl : k = n := by omega
      have pp2 : ((k : Int) < (k : Int)) = False := eq_false (by omega)
      have HE := Lib.hid (And.intro hil (And.intro hfl hbl))
      clear hil hfl hbl
      go_wp2_with fail
      go_ret
      exact ⟨q, rfl, by rw [← HE.out.2.1.all]; exact HE.out.1, by rw [← H2.out.2.2]; exact Nat.le_refl _, HE.out.2.2⟩
end Go.Proofs.Ytnkbbjeepdjamaa
/- dom.Of's own closure: a block of so many -1. Conditions: at least one place, few. -/
namespace Go.Proofs.Ytnkbbjeepdjamaa
open Go.RowKit
theorem fill_calls (n : Nat) (h1 : 1 ≤ n) (hn : n ≤ 1048575) (N : Nat) (w : World) (hN : w.cell? ⟨N, 0, none⟩ = some (.int .i64 n)) :
    Calls Try.prog 49 #[.pointer (some ⟨N, 0, none⟩)] w fun e w' => ∃ q, e = .returned (.slice (some ⟨q, 0, none⟩) n n) ∧ Ints w' q (List.replicate n (-1)) ∧ w.heap.size ≤ q ∧ Below w.heap.size w w' := by
  have hlt : N < w.heap.size := World.block_lt_of_cell? w _ hN
  have hb : Below w.heap.size w (w.alloc (.cells #[.int .i64 (-1)] 3)) := (Below.refl _ _).alloc (Nat.le_refl _) _
  have HR := Lib.hid (repeat_calls n h1 hn w.heap.size 0 1 (-1) (w.alloc (.cells #[.int .i64 (-1)] 3)) (cell_of_blk _ _ _ _ _ (heap_alloc_new' w _) 0))
  have HB := Lib.hid hb
  clear hb
  go_enter Try.func49, Try.ntmps49
  go_wp2_with fail
  refine HR.out.mono ?_
  rintro e w1 ⟨q, rfl, h2, h3, h4⟩
  have HE := Lib.hid (And.intro h2 (And.intro (show w.heap.size ≤ q by simp at h3; omega) (below_two HB.out h4)))
  clear h2 h3 h4
  go_wp2_with fail
  go_ret
  exact ⟨q, rfl, HE.out.1, HE.out.2.1, HE.out.2.2⟩
end Go.Proofs.Ytnkbbjeepdjamaa
/- dom.Tree in memory. No condition. -/
namespace Go.Proofs.Ytnkbbjeepdjamaa
open Go.RowKit
/-- A tree's value: the nearest ones, those below each, the depths. -/
def treeV (qu qb qd n : Nat) : Value := .agg #[.slice (some ⟨qu, 0, none⟩) n n, .slice (some ⟨qb, 0, none⟩) n n, .slice (some ⟨qd, 0, none⟩) n n]
/-- Those whose nearest one is u, of the first k. -/
def belowOf (up : List Int) (k u : Nat) : List Nat := (List.range k).filter (fun v => decide (up[v]? = some (u : Int)))
def belows (up : List Int) (n k : Nat) : List (List Nat) := (List.range n).map (belowOf up k)
theorem belows_len (up : List Int) (n k : Nat) : (belows up n k).length = n := by simp [belows]
theorem belows_get (up : List Int) {n k u : Nat} (hu : u < n) : (belows up n k)[u]? = some (belowOf up k u) := by
  simp [belows, hu]
theorem belows_zero (up : List Int) (n : Nat) : belows up n 0 = List.replicate n [] := by
  apply List.ext_getElem?
  intro i
  by_cases hi : i < n
  · rw [belows_get up hi, List.getElem?_replicate, if_pos hi]; simp [belowOf]
  · rw [List.getElem?_eq_none (by rw [belows_len]; omega), List.getElem?_eq_none (by simp; omega)]
theorem belowOf_succ (up : List Int) (k u : Nat) : belowOf up (k + 1) u = if up[k]? = some (u : Int) then belowOf up k u ++ [k] else belowOf up k u := by
  unfold belowOf
  rw [List.range_succ, List.filter_append]
  by_cases h : up[k]? = some (u : Int) <;> simp [h]
theorem belows_none {up : List Int} {n k : Nat} (h : ∀ u : Nat, up[k]? ≠ some (u : Int)) : belows up n (k + 1) = belows up n k := by
  unfold belows
  apply List.map_congr_left
  intro u _
  rw [belowOf_succ, if_neg (h u)]
theorem belows_some {up : List Int} {n k u : Nat} (h : up[k]? = some (u : Int)) : belows up n (k + 1) = (belows up n k).set u (belowOf up k u ++ [k]) := by
  apply List.ext_getElem?
  intro i
  by_cases hi : i < n
  · rw [belows_get up hi, belowOf_succ]
    by_cases e : u = i
    · subst e
      rw [if_pos h, List.getElem?_set_self (by rw [belows_len]; exact hi)]
    · rw [List.getElem?_set_ne e, belows_get up hi, if_neg (fun e2 => e (by rw [h] at e2; have := Option.some.inj e2; omega))]
  · rw [List.getElem?_eq_none (by rw [belows_len]; omega), List.getElem?_eq_none (by rw [List.length_set, belows_len]; omega)]
theorem belowOf_len (up : List Int) (k u : Nat) : (belowOf up k u).length ≤ k := by
  unfold belowOf
  exact Nat.le_trans (List.length_filter_le _ _) (by simp)
/-- A tree in memory. -/
structure TR (w : World) (base n qu qb qd : Nat) (vs : List Value) (up deep : List Int) (bl : List (List Nat)) : Prop where
  up : Ints w qu up
  deep : Ints w qd deep
  mat : Mat w base qb vs bl
  ne : qu ≠ qd
  lb : bl.length = n
section
variable {w w' : World} {base n qu qb qd : Nat} {vs : List Value} {up deep : List Int} {bl : List (List Nat)}
theorem TR.only {T : Nat → Prop} (h : TR w base n qu qb qd vs up deep bl) (ho : Only T w w') (hu : ¬ T qu) (hd : ¬ T qd) (hm : ∀ g, MatB qb vs g → ¬ T g) : TR w' base n qu qb qd vs up deep bl :=
  ⟨h.up.only ho hu, h.deep.only ho hd, h.mat.only ho hm, h.ne, h.lb⟩
theorem TR.later (h : TR w base n qu qb qd vs up deep bl) (hb : Below w.heap.size w w') : TR w' base n qu qb qd vs up deep bl :=
  ⟨h.up.later hb, h.deep.later hb, h.mat.later hb, h.ne, h.lb⟩
end
end Go.Proofs.Ytnkbbjeepdjamaa
