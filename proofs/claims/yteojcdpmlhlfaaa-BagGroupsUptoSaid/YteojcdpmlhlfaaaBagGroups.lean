/- What refinerylaw02.BagGroups' walk comes to. Conditions: the acts' cells hold small numbers. -/
import Derived.Test.YteojcdpmlhlfaaaGroups
import Derived.Test.YteojcdpmlhlfaaaArr
import Derived.Test.YteojcdpmlhlfaaaAwake
import Derived.Deep.QuietTactic
import Derived.BigQuiet
namespace Go.Proofs.Yteojcdpmlhlfaaa
open Go.RowKit

theorem GroupsAt.only {S : Nat → Prop} {w w' : World} {base p : Nat} {up : Int → Option Int} (h : GroupsAt w base p up) (ho : Only S w w') (hp : ¬ S p) (hm : ∀ k es c, w.heap[k]? = some (.map es c) → ¬ S k) : GroupsAt w' base p up := by
  obtain ⟨hg, mo, hh, hno, hso⟩ := h
  refine ⟨hg, mo, (ho.block p (Array.getElem?_eq_some_iff.1 hh).1 hp).trans hh, hno, fun m e => ?_⟩
  obtain ⟨hb, al, hmi, hget⟩ := hso m e
  refine ⟨hb, al, hmi.only ho ?_, hget⟩
  obtain ⟨es, c, hk, _⟩ := hmi.blk
  exact hm m es c hk
/-- What holds between two acts. -/
structure GInv (w wr : World) (B p q : Nat) (up : Int → Option Int) (f : Nat → Int) : Prop where
  groups : GroupsAt wr B p up
  arr : Arr wr q 27 20 (fun j => .int .i64 (f j))
  below : Below B w wr
theorem GInv.set {w wr : World} {B p q : Nat} {up : Int → Option Int} {f : Nat → Int} (h : GInv w wr B p q up f) (hq : B ≤ q) (hpq : p ≠ q) (i : Nat) (hi : i < 20) (u : Int) : GInv w (wr.setCell ⟨q, i, none⟩ (.int .i64 u)) B p q up (fun j => if j = i then u else f j) := by
  refine ⟨h.groups.only (Only.setCell wr _ _) hpq ?_, (h.arr.set i hi (.int .i64 u)).congr (fun j _ => by split <;> rfl), h.below.setCell hq _⟩
  rintro k es c hk rfl
  obtain ⟨cs, hh, _⟩ := h.arr
  rw [hh] at hk; cases hk
theorem GInv.alloc {w wr : World} {B p q : Nat} {up : Int → Option Int} {f : Nat → Int} (h : GInv w wr B p q up f) (hB : B ≤ wr.heap.size) (o : Obj) : GInv w (wr.alloc o) B p q up f :=
  ⟨h.groups.only (Only.alloc (fun _ => False) wr o) id (fun _ _ _ _ => id), h.arr.only (Only.alloc (fun _ => False) wr o) id, h.below.alloc hB o⟩
theorem GInv.drewN {w wr : World} {B p q : Nat} {up : Int → Option Int} {f : Nat → Int} (h : GInv w wr B p q up f) (n : Nat) : GInv w (wr.drewN n) B p q up f :=
  ⟨h.groups.only (Only.drewN (fun _ => False) wr n) id (fun _ _ _ _ => id), h.arr.only (Only.drewN (fun _ => False) wr n) id, ⟨h.below.os, h.below.tape, h.below.output, h.below.size, h.below.block⟩⟩

theorem gjoin_all (base p : Nat) (up : Int → Option Int) (x y a b : Int) (w : World) (h : GroupsAt w base p up) (hx : 0 ≤ x) (hy : 0 ≤ y) (hra : Root up x a) (hrb : Root up y b) (hbase : base ≤ w.heap.size) :
    ∃ up', Calls Try.prog 11 #[.pointer (some ⟨p, 0, none⟩), .int .i64 x, .int .i64 y] w (fun e w' => e = .returned (.bool (a != b)) ∧ GroupsAt w' base p up' ∧ Only (fun k => k = p ∨ (∃ c t, w.heap[k]? = some (.map c t) ∧ base ≤ k)) w w') ∧
      ∀ z r, Root up z r → Root up' z (if r = a ∨ r = b then min a b else r) := by
  rcases Int.lt_trichotomy a b with hlt | rfl | hlt
  · refine ⟨_, (gjoin_lt base p up x y a b w h hx hy hra hrb hlt hbase).mono (fun e w' ⟨h1, h2, h3⟩ => ⟨by rw [h1]; simp; omega, h2, h3⟩), fun z r hz => ?_⟩
    have := root_upTo hrb.none hra.none (by omega) hz
    have e : (if r = a ∨ r = b then min a b else r) = (if r = b then a else r) := by
      split
      · split <;> omega
      · rw [if_neg (by omega)]
    rw [e]; exact this
  · refine ⟨up, (gjoin_same base p up x y a w h hx hy hra hrb).mono (fun e w' ⟨h1, h2⟩ => by subst h2; exact ⟨by rw [h1]; simp, h, Only.refl _ _⟩), fun z r hz => ?_⟩
    have e : (if r = a ∨ r = a then min a a else r) = r := by split <;> omega
    rw [e]; exact hz
  · refine ⟨_, (gjoin_gt base p up x y a b w h hx hy hra hrb hlt hbase).mono (fun e w' ⟨h1, h2, h3⟩ => ⟨by rw [h1]; simp; omega, h2, h3⟩), fun z r hz => ?_⟩
    have := root_upTo hra.none hrb.none (by omega) hz
    have e : (if r = a ∨ r = b then min a b else r) = (if r = a then b else r) := by
      split
      · split <;> omega
      · rw [if_neg (by omega)]
    rw [e]; exact this
theorem quiet_left {P : Program} {f : FuncId} {args : Array Value} {w : World} {n : Nat} {v : Value}
    (h : Calls P f args (w.drewN n) fun e w' => e = .returned v ∧ w.drewN n = w') : Calls P f args (w.drewN n) fun e w'' => e = .returned v ∧ ∃ m, w'' = w.drewN m :=
  h.mono fun _ _ ⟨he, hm⟩ => ⟨he, n, hm.symm⟩
set_option maxRecDepth 100000 in
set_option maxHeartbeats 4000000 in
theorem groups_walk (A : Option Addr) (n c : Nat) (w : World) (hn : (decide ((60 : Int) < (n : Int))) = false) (hn' : n ≤ 60)
    (hA : ∀ k, k < n → ∃ g o a b d, A = some ⟨g, o, none⟩ ∧ g < w.heap.size ∧ w.cell? ⟨g, o + k * 3, none⟩ = some (.int .u8 a) ∧ w.cell? ⟨g, o + k * 3 + 1, none⟩ = some (.int .u8 b) ∧ w.cell? ⟨g, o + k * 3 + 2, none⟩ = some (.int .u8 d) ∧ 0 ≤ b ∧ b ≤ 255 ∧ 0 ≤ d ∧ d ≤ 255) :
    Calls Try.prog 3 #[.slice A n c] w fun e w' => e = .returned (.bool true) ∧ Below w.heap.size w w' := by
  have HA := Lib.hid hA; clear hA
  go_enter Try.func3, Try.ntmps3
  go_wp2_with fail
  refine (awake _).mono ?_
  rintro e w1 ⟨rfl, hb1⟩
  have HB1 := Lib.hid hb1; clear hb1
  go_wp2
  obtain ⟨W1, hW1⟩ : ∃ W1, W1 = (w1.alloc (.cells #[.map none] 26)).alloc (.cells #[.int .i64 0, .int .i64 0, .int .i64 0, .int .i64 0, .int .i64 0, .int .i64 0, .int .i64 0, .int .i64 0, .int .i64 0, .int .i64 0, .int .i64 0, .int .i64 0, .int .i64 0, .int .i64 0, .int .i64 0, .int .i64 0, .int .i64 0, .int .i64 0, .int .i64 0, .int .i64 0] 27) := ⟨_, rfl⟩
  have hinv : GInv w W1 w.heap.size w1.heap.size (w1.heap.size + 1) (fun _ => none) (fun _ => 0) := by
    rw [hW1]
    refine ⟨⟨fun x y h => by (cases h), none, (Below.heap_alloc _ _ _ (by simp)).trans (heap_alloc_new w1 _), fun _ _ => rfl, fun m h => by cases h⟩, ⟨#[.int .i64 0, .int .i64 0, .int .i64 0, .int .i64 0, .int .i64 0, .int .i64 0, .int .i64 0, .int .i64 0, .int .i64 0, .int .i64 0, .int .i64 0, .int .i64 0, .int .i64 0, .int .i64 0, .int .i64 0, .int .i64 0, .int .i64 0, .int .i64 0, .int .i64 0, .int .i64 0], ?_, rfl, ?_⟩, (HB1.out.alloc HB1.out.size _).alloc (by have := HB1.out.size; simp; omega) _⟩
    · have := heap_alloc_new (w1.alloc (.cells #[.map none] 26)) (.cells #[.int .i64 0, .int .i64 0, .int .i64 0, .int .i64 0, .int .i64 0, .int .i64 0, .int .i64 0, .int .i64 0, .int .i64 0, .int .i64 0, .int .i64 0, .int .i64 0, .int .i64 0, .int .i64 0, .int .i64 0, .int .i64 0, .int .i64 0, .int .i64 0, .int .i64 0, .int .i64 0] 27)
      rwa [World.size_alloc] at this
    · intro i hi
      have : i = 0 ∨ i = 1 ∨ i = 2 ∨ i = 3 ∨ i = 4 ∨ i = 5 ∨ i = 6 ∨ i = 7 ∨ i = 8 ∨ i = 9 ∨ i = 10 ∨ i = 11 ∨ i = 12 ∨ i = 13 ∨ i = 14 ∨ i = 15 ∨ i = 16 ∨ i = 17 ∨ i = 18 ∨ i = 19 := by omega
      rcases this with rfl | rfl | rfl | rfl | rfl | rfl | rfl | rfl | rfl | rfl | rfl | rfl | rfl | rfl | rfl | rfl | rfl | rfl | rfl | rfl <;> rfl
  rw [← hW1]
  clear hW1
  have hBp : w.heap.size ≤ w1.heap.size := HB1.out.size
  clear HB1
  generalize w1.heap.size = p at *
  have HA2 : Hid (∀ k, k < n → ∃ g o a b d, A = some ⟨g, o, none⟩ ∧ g < w.heap.size ∧ w.cell? ⟨g, o + k * 3, none⟩ = some (.int .u8 a) ∧ w.cell? ⟨g, o + k * 3 + 1, none⟩ = some (.int .u8 b) ∧ w.cell? ⟨g, o + k * 3 + 2, none⟩ = some (.int .u8 d) ∧ 0 ≤ b ∧ b ≤ 255 ∧ 0 ≤ d ∧ d ≤ 255) := HA
  obtain ⟨B, HB⟩ : ∃ B, Hid (w.heap.size = B) := ⟨_, rfl⟩
  rw [HB.out] at hinv hBp
  have HINV := Lib.hid hinv; clear hinv
  go_loopw [19] (fun i wr => ∃ k : Nat, k ≤ 20 ∧ i = .int .i64 k ∧ Hid (GInv w wr B p (p + 1) (fun _ => none) (fun j => if j < k then (j : Int) else 0))) (fun i _ => 20 - (intOf i).toNat)
  case atStart => exact ⟨0, by omega, rfl, by have := HINV.out; simpa [Hid] using this⟩
  case round =>
    obtain ⟨k, hk, rfl, hI⟩ := hrel
    by_cases hlt : k < 20
    · have hcell := hI.out.arr.cell k hlt
      have hfz := hI.out.arr.frozen k
      simp only [if_neg (Nat.lt_irrefl k)] at hcell
      go_wp2
      go_roundw
      case rel =>
        refine ⟨k + 1, by omega, by go_num, ?_⟩
        have h2 := hI.out.set (by omega) (by omega) k hlt (k : Int)
        refine ⟨h2.groups, h2.arr.congr (fun j hj => ?_), h2.below⟩
        by_cases e : j = k
        · subst e; simp
        · by_cases e2 : j < k
          · simp [e, e2, show j < k + 1 by omega]
          · simp [e, e2, show ¬ j < k + 1 by omega]
      case measure => simp [intOf]; omega
    · obtain rfl : k = 20 := by omega
      rw [show ((20 : Nat) : Int) = 20 from rfl]
      go_wp2
      have hI2 : Hid (GInv w wr B p (p + 1) (fun _ => none) (fun j => (j : Int))) := ⟨hI.out.groups, hI.out.arr.congr (fun j hj => by simp [hj]), hI.out.below⟩
      clear hI hk hlt
      obtain ⟨w0, rfl⟩ : ∃ w0 : World, w0 = wr := ⟨_, rfl⟩
      go_loopw [28] (fun i wr => ∃ (k : Nat) (up : Int → Option Int) (f : Nat → Int), k ≤ n ∧ i = .int .i64 k ∧ Hid (GInv w wr B p (p + 1) up f ∧ ∀ j : Nat, j < 20 → Root up (j : Int) (f j))) (fun i _ => n - (intOf i).toNat)
      case atStart => exact ⟨0, _, _, by omega, rfl, hI2.out, fun j _ => .here rfl⟩
      case round =>
        obtain ⟨k, up, f, hk, rfl, hI⟩ := hrel
        by_cases hlt : k < n
        · obtain ⟨g, o, a, b, d, rfl, hgl, c0, c1, c2, b0, b1, d0, d1⟩ := HA.out k hlt
          rw [HB.out] at hgl
          have e0 := (hI.out.1.below.cell (p := ⟨g, o + k * 3, none⟩) hgl).trans c0
          have e1 := (hI.out.1.below.cell (p := ⟨g, o + k * 3 + 1, none⟩) hgl).trans c1
          have e2 := (hI.out.1.below.cell (p := ⟨g, o + k * 3 + 2, none⟩) hgl).trans c2
          clear c0 c1 c2
          go_wp2
          have hI3 : Hid (GInv w (wr.alloc (.cells #[.int .u8 a, .int .u8 b, .int .u8 d] 29)) B p (p + 1) up f) := hI.out.1.alloc (by have := hI.out.1.below.size; have := HB.out; omega) _
          have hroot : Hid (∀ j : Nat, j < 20 → Root up (j : Int) (f j)) := hI.out.2
          obtain ⟨W2, hW2⟩ : ∃ W2, W2 = wr.alloc (.cells #[.int .u8 a, .int .u8 b, .int .u8 d] 29) := ⟨_, rfl⟩
          have hh2 : W2.heap[wr.heap.size]? = some (.cells #[.int .u8 a, .int .u8 b, .int .u8 d] 29 (0, 0)) := by rw [hW2]; exact heap_alloc_new wr _
          have f1 : W2.cell? ⟨wr.heap.size, 1, none⟩ = some (.int .u8 b) := by rw [cell_of_blk _ _ _ _ _ hh2]; rfl
          have f2 : W2.cell? ⟨wr.heap.size, 2, none⟩ = some (.int .u8 d) := by rw [cell_of_blk _ _ _ _ _ hh2]; rfl
          rw [← hW2] at hI3 ⊢
          clear hW2 hh2 e0 e1 e2 hI
          generalize wr.heap.size = r at *
          obtain ⟨X, hX⟩ : ∃ X : Nat, b % 20 = (X : Int) := ⟨(b % 20).toNat, by omega⟩
          obtain ⟨Y, hY⟩ : ∃ Y : Nat, d % 20 = (Y : Int) := ⟨(d % 20).toNat, by omega⟩
          have hX20 : X < 20 := by omega
          have hY20 : Y < 20 := by omega
          go_quiet (fail)
          clear hX hY f1 f2
          have hI4 : Hid (GInv w (W2.drewN nq) B p (p + 1) up f) := hI3.out.drewN nq
          clear hI3
          generalize W2.drewN nq = W3 at *
          go_wp2
          have g1 := hI4.out.arr.cell X hX20
          have g2 := hI4.out.arr.cell Y hY20
          have hXI : (X : Int) < 20 := by omega
          have hYI : (Y : Int) < 20 := by omega
          go_quiet (fail)
          clear g1 g2
          have hI5 : Hid (GInv w (W3.drewN nq) B p (p + 1) up f) := hI4.out.drewN nq
          clear hI4
          generalize W3.drewN nq = W4 at *
          obtain ⟨up', hJ, hup⟩ := gjoin_all B p up X Y (f X) (f Y) W4 hI5.out.groups (by omega) (by omega) (hroot.out X hX20) (hroot.out Y hY20) (by have := hI5.out.below.size; have := HB.out; omega)
          have HJ := Lib.hid hJ; have HUP := Lib.hid hup
          clear hJ hup
          generalize hfa : f X = fa at *
          generalize hfb : f Y = fb at *
          clear hfa hfb
          go_wp2_with fail
          refine HJ.out.mono ?_
          rintro e W5 ⟨rfl, hg5, ho5⟩
          have hI6 : Hid (GInv w W5 B p (p + 1) up' f) := by
            refine ⟨hg5, hI5.out.arr.only ho5 ?_, hI5.out.below.trans (ho5.below (by have := hI5.out.below.size; have := HB.out; omega) ?_)⟩
            · rintro (h | ⟨c', t', h, _⟩)
              · omega
              · obtain ⟨cs, hh, _⟩ := hI5.out.arr
                rw [hh] at h; cases h
            · rintro k' hk' (h | ⟨c', t', h, h2⟩)
              · omega
              · omega
          clear hg5 ho5 hI5 HJ
          go_wp2
          obtain ⟨w5, rfl⟩ : ∃ w5 : World, w5 = W5 := ⟨_, rfl⟩
          go_loopw [53] (fun i wr => ∃ k2 : Nat, k2 ≤ 20 ∧ i = .int .i64 k2 ∧ Hid (GInv w wr B p (p + 1) up' (fun j => if j < k2 then (if f j = fa ∨ f j = fb then min fa fb else f j) else f j))) (fun i _ => 20 - (intOf i).toNat)
          case atStart => exact ⟨0, by omega, rfl, by have := hI6.out; simpa [Hid] using this⟩
          case round =>
            obtain ⟨k2, hk2, rfl, hI7⟩ := hrel
            by_cases hlt2 : k2 < 20
            · have hcell := hI7.out.arr.cell k2 hlt2
              have hfz := hI7.out.arr.frozen k2
              simp only [if_neg (Nat.lt_irrefl k2)] at hcell
              have hnext : ∀ (u : Int) (W : World), (if f k2 = fa ∨ f k2 = fb then min fa fb else f k2) = u → GInv w W B p (p + 1) up' (fun j => if j = k2 then u else (if j < k2 then (if f j = fa ∨ f j = fb then min fa fb else f j) else f j)) →
                  GInv w W B p (p + 1) up' (fun j => if j < k2 + 1 then (if f j = fa ∨ f j = fb then min fa fb else f j) else f j) := by
                intro u W hu h
                refine ⟨h.groups, h.arr.congr (fun j hj => ?_), h.below⟩
                by_cases e : j = k2
                · subst e; simp [← hu]
                · by_cases e2 : j < k2
                  · simp [e, e2, show j < k2 + 1 by omega]
                  · simp [e, e2, show ¬ j < k2 + 1 by omega]
              have HN := Lib.hid hnext; clear hnext
              by_cases h1 : f k2 = fa ∨ f k2 = fb
              · have hput := hI7.out.set (by omega) (by omega) k2 hlt2 (min fa fb)
                have HPUT := Lib.hid (HN.out _ _ (if_pos h1) hput)
                clear hput HN
                generalize f k2 = fk at *
                rcases (by omega : fb < fa ∨ fa ≤ fb) with hm | hm
                · have hmin : min fa fb = fb := by omega
                  have HMIN := Lib.hid hmin; clear hmin
                  by_cases h3 : fk = fa
                  · have h4 : (fk == fa) = true := by simp [h3]
                    clear h1 h3
                    go_wp2
                    go_roundw
                    case rel => exact ⟨k2 + 1, by omega, by go_num, by have := HPUT.out; rwa [HMIN.out] at this ⊢⟩
                    case measure => simp [intOf]; omega
                  · have h4 : (fk == fa) = false := by simp [h3]
                    have h5 : (fk == fb) = true := by simp; omega
                    clear h1 h3
                    go_wp2
                    go_roundw
                    case rel => exact ⟨k2 + 1, by omega, by go_num, by have := HPUT.out; rwa [HMIN.out] at this ⊢⟩
                    case measure => simp [intOf]; omega
                · have hmin : min fa fb = fa := by omega
                  have HMIN := Lib.hid hmin; clear hmin
                  by_cases h3 : fk = fa
                  · have h4 : (fk == fa) = true := by simp [h3]
                    clear h1 h3
                    go_wp2
                    go_roundw
                    case rel => exact ⟨k2 + 1, by omega, by go_num, by have := HPUT.out; rwa [HMIN.out] at this ⊢⟩
                    case measure => simp [intOf]; omega
                  · have h4 : (fk == fa) = false := by simp [h3]
                    have h5 : (fk == fb) = true := by simp; omega
                    clear h1 h3
                    go_wp2
                    go_roundw
                    case rel => exact ⟨k2 + 1, by omega, by go_num, by have := HPUT.out; rwa [HMIN.out] at this ⊢⟩
                    case measure => simp [intOf]; omega
              · have HPUT := Lib.hid (HN.out (f k2) _ (if_neg h1) ⟨hI7.out.groups, hI7.out.arr.congr (fun j _ => by
                  by_cases e : j = k2
                  · subst e; simp
                  · simp [e]), hI7.out.below⟩)
                clear HN
                have h4 : (f k2 == fa) = false := by simp; omega
                have h5 : (f k2 == fb) = false := by simp; omega
                clear h1
                go_wp2
                go_roundw
                case rel => exact ⟨k2 + 1, by omega, by go_num, HPUT.out⟩
                case measure => simp [intOf]; omega
            · obtain rfl : k2 = 20 := by omega
              rw [show ((20 : Nat) : Int) = 20 from rfl]
              go_wp2
              have hroot' : Hid (∀ j : Nat, j < 20 → Root up' (j : Int) ((fun j => if f j = fa ∨ f j = fb then min fa fb else f j) j)) := fun j hj => HUP.out _ _ (hroot.out j hj)
              have hI8 : Hid (GInv w wr B p (p + 1) up' (fun j => if f j = fa ∨ f j = fb then min fa fb else f j)) := ⟨hI7.out.groups, hI7.out.arr.congr (fun j hj => by simp [hj]), hI7.out.below⟩
              clear hI7 hlt2 hk2 hroot HUP hI6
              generalize (fun j => if f j = fa ∨ f j = fb then min fa fb else f j) = f' at hI8 hroot'
              obtain ⟨w6, rfl⟩ : ∃ w6 : World, w6 = wr := ⟨_, rfl⟩
              go_loopw [74] (fun i wr => ∃ k2 : Nat, k2 ≤ 20 ∧ i = .int .i64 k2 ∧ Hid (GInv w wr B p (p + 1) up' f')) (fun i _ => 20 - (intOf i).toNat)
              case atStart => exact ⟨0, by omega, rfl, hI8⟩
              case round =>
                obtain ⟨k2, hk2, rfl, hI9⟩ := hrel
                by_cases hlt2 : k2 < 20
                · have hcell := hI9.out.arr.cell k2 hlt2
                  have hkI : (k2 : Int) < 20 := by omega
                  have HFIND := Lib.hid (fun m => gfind B p up' k2 (f' k2) (wr.drewN m) (hI9.out.drewN m).groups (by omega) (hroot'.out k2 hlt2))
                  go_wp2
                  go_quiet ((go_at_call 12; exact quiet_left (HFIND.out _)))
                  have hI10 : Hid (GInv w (wr.drewN nq) B p (p + 1) up' f') := hI9.out.drewN nq
                  clear hI9 hcell HFIND
                  generalize wr.drewN nq = W7 at *
                  go_wp2
                  go_roundw
                  case rel => exact ⟨k2 + 1, by omega, by go_num, hI10⟩
                  case measure => simp [intOf]; omega
                · obtain rfl : k2 = 20 := by omega
                  rw [show ((20 : Nat) : Int) = 20 from rfl]
                  go_wp2
                  go_roundw
                  case rel => exact ⟨k + 1, up', f', by omega, by go_num, hI9.out, hroot'.out⟩
                  case measure => simp [intOf]; omega
        · obtain rfl : k = n := by omega
          go_wp2
          exact bodyPost_ret (by simp [results, Try.results3, go_sem]) rfl ⟨rfl, by have := hI.out.1.below; have h2 := HB.out; subst h2; exact this⟩
theorem groups_far (A : Option Addr) (n c : Nat) (w : World) (hn : (decide ((60 : Int) < (n : Int))) = true) :
    Calls Try.prog 3 #[.slice A n c] w fun e w' => e = .returned (.bool true) ∧ Below w.heap.size w w' := by
  go_enter Try.func3, Try.ntmps3
  go_wp2_with fail
  refine (awake _).mono ?_
  rintro e w1 ⟨rfl, hb1⟩
  have HB1 := Lib.hid hb1; clear hb1
  go_wp2
  all_goals go_ret
  all_goals exact ⟨rfl, HB1.out⟩
theorem groups_all (A : Option Addr) (n c : Nat) (w : World)
    (hA : ∀ k, k < n → ∃ g o a b d, A = some ⟨g, o, none⟩ ∧ g < w.heap.size ∧ w.cell? ⟨g, o + k * 3, none⟩ = some (.int .u8 a) ∧ w.cell? ⟨g, o + k * 3 + 1, none⟩ = some (.int .u8 b) ∧ w.cell? ⟨g, o + k * 3 + 2, none⟩ = some (.int .u8 d) ∧ (0 ≤ a ∧ a ≤ 255) ∧ (0 ≤ b ∧ b ≤ 255) ∧ 0 ≤ d ∧ d ≤ 255) :
    Calls Try.prog 3 #[.slice A n c] w fun e w' => e = .returned (.bool true) ∧ Below w.heap.size w w' := by
  by_cases hn : n ≤ 60
  · refine groups_walk A n c w (by simp; omega) hn fun k hk => ?_
    obtain ⟨g, o, a, b, d, h1, h2, h3, h4, h5, _, h7, h8⟩ := hA k hk
    exact ⟨g, o, a, b, d, h1, h2, h3, h4, h5, h7.1, h7.2, h8⟩
  · exact groups_far A n c w (by simp; omega)
end Go.Proofs.Yteojcdpmlhlfaaa
