/- What refinerylaw02.BagSets' walk comes to. Conditions: the acts' cells hold small numbers. -/
import Derived.Test.YteojcdpmlhlfaaaDropI
import Derived.Test.YteojcdpmlhlfaaaSetMoreI
import Derived.Test.YteojcdpmlhlfaaaEqI
import Derived.Test.YteojcdpmlhlfaaaMaps
import Derived.Test.YteojcdpmlhlfaaaAwake
import Derived.Test.YteojcdpmlhlfaaaOpen
import Derived.Test.YteojcdpmlhlfaaaRow
import Derived.Deep.RegionWith
import Derived.Deep.RegionHeld3
namespace Go.Proofs.Yteojcdpmlhlfaaa
open Go.RowKit Go.Shelf SI
attribute [local go_sem] Oper.semAt_some

theorem zero_boolB : ∀ w : World, (zeroValue 4).run Try.prog w = .ok (.bool false) w := fun w => by kernel_rfl
/-- The set and the map beside it. -/
structure BSt (w wr : World) (B p m : Nat) (v : Value) (xs : List Int) (al : List (Int × Value)) : Prop where
  blk : wr.heap[p]? = some (.cells #[v] 75 (0, 0))
  set : IsSetI wr B v xs
  map : MapIs wr m .i64 al
  below : Below B w wr
  pB : B ≤ p
  mB : B ≤ m
  wB : B ≤ w.heap.size
theorem BSt.sz {w wr : World} {B p m : Nat} {v : Value} {xs : List Int} {al : List (Int × Value)} (h : BSt w wr B p m v xs al) : B ≤ wr.heap.size := Nat.le_trans h.wB h.below.size
theorem BSt.ne_p {w wr : World} {B p m : Nat} {v : Value} {xs : List Int} {al : List (Int × Value)} (h : BSt w wr B p m v xs al) : v.ownBlock ≠ some p := own_ne_blk h.set.own h.blk (by decide)
theorem BSt.ne_m {w wr : World} {B p m : Nat} {v : Value} {xs : List Int} {al : List (Int × Value)} (h : BSt w wr B p m v xs al) : v.ownBlock ≠ some m := by
  obtain ⟨es, c, hh, _⟩ := h.map.blk
  exact (RowAt.of_own h.set.own).ne_map hh
theorem BSt.pm {w wr : World} {B p m : Nat} {v : Value} {xs : List Int} {al : List (Int × Value)} (h : BSt w wr B p m v xs al) : p ≠ m := by
  rintro rfl
  obtain ⟨es, c, hh, _⟩ := h.map.blk
  rw [h.blk] at hh; cases hh
theorem BSt.only {S : Nat → Prop} {w wr w' : World} {B p m : Nat} {v : Value} {xs : List Int} {al : List (Int × Value)} (h : BSt w wr B p m v xs al) (ho : Only S wr w') (hS : ∀ k, S k → wr.heap.size ≤ k) : BSt w w' B p m v xs al := by
  have hp := (Array.getElem?_eq_some_iff.1 h.blk).1
  refine ⟨(ho.block p hp (fun e => by have := hS p e; omega)).trans h.blk, h.set.only ho (fun g hg e => by have := hS g e; have := (own_lt h.set.own hg).1; omega), h.map.only ho (fun e => by have := hS m e; have := h.map.lt; omega), h.below.trans (ho.below h.sz (fun k hk e => by have := hS k e; have := h.sz; omega)), h.pB, h.mB, h.wB⟩
theorem BSt.put {w wr w' : World} {B p m : Nat} {v v' : Value} {xs xs' : List Int} {al : List (Int × Value)} (h : BSt w wr B p m v xs al) (hp : PutAt p 0 v' (fun k => v.ownBlock = some k) wr w') (hs : IsSetI w' B v' xs') : BSt w w' B p m v' xs' al := by
  refine ⟨hp.blk _ _ _ h.blk, hs, h.map.only hp.only ?_, h.below.trans (hp.only.below h.sz ?_), h.pB, h.mB, h.wB⟩
  · rintro (e | e)
    · exact h.pm e.symm
    · exact h.ne_m e
  · rintro k hk (e | e)
    · have := h.pB; omega
    · have := (own_lt h.set.own e).2; omega
/-- The acts' own copies stay. -/
def KeepAct (a b : World) : Prop := ∀ (r : Nat) (cs : Array Value) (f : Nat × Nat), a.heap[r]? = some (.cells cs 29 f) → b.heap[r]? = some (.cells cs 29 f)
theorem BSt.keepAct {w wr w' : World} {B p m : Nat} {v v' : Value} {xs : List Int} {al : List (Int × Value)} (h : BSt w wr B p m v xs al) (hp : PutAt p 0 v' (fun k => v.ownBlock = some k) wr w') : KeepAct wr w' := fun r cs f hr => by
  refine (hp.only.block r (Array.getElem?_eq_some_iff.1 hr).1 ?_).trans hr
  rintro (e | e)
  · subst e; exact blk_ne h.blk hr (by decide) rfl
  · exact own_ne_blk h.set.own hr (by decide) e
theorem keepAct_map {wr w' : World} {m : Nat} {K : IntKind} {al : List (Int × Value)} (h : MapIs wr m K al) (ho : Only (fun k => k = m) wr w') : KeepAct wr w' := fun r cs f hr => by
  refine (ho.block r (Array.getElem?_eq_some_iff.1 hr).1 ?_).trans hr
  rintro rfl
  obtain ⟨es, c, hh, _⟩ := h.blk
  rw [hr] at hh; cases hh
theorem BSt.drop {w wr : World} {B p m : Nat} {v : Value} {xs : List Int} {al : List (Int × Value)} (h : BSt w wr B p m v xs al) (hn : xs.length ≤ 1000) (x : Int) :
    Calls Try.prog 34 #[.pointer (some ⟨p, 0, none⟩), .int .i64 x] wr fun e w' => ∃ v', e = .returned (.bool (decide (x ∈ xs))) ∧ BSt w w' B p m v' (del x xs) al ∧ KeepAct wr w' :=
  (dropI B p 0 v xs x wr h.set (by omega) _ _ h.blk rfl h.ne_p).mono fun e w' ⟨v', h1, h2, h3, _⟩ => ⟨v', h1, BSt.put h h3 h2, h.keepAct h3⟩
theorem BSt.add {w wr : World} {B p m : Nat} {v : Value} {xs : List Int} {al : List (Int × Value)} (h : BSt w wr B p m v xs al) (hn : xs.length ≤ 1000) (x : Int) :
    Calls Try.prog 35 #[.pointer (some ⟨p, 0, none⟩), .int .i64 x] wr fun e w' => ∃ v', e = .returned (.bool (!decide (x ∈ xs))) ∧ BSt w w' B p m v' (ins ltI x xs) al ∧ KeepAct wr w' :=
  (addI B p 0 v xs x wr h.set (by omega) _ _ h.blk rfl h.ne_p h.sz).mono fun e w' ⟨v', h1, h2, h3, _⟩ => ⟨v', h1, BSt.put h h3 h2, h.keepAct h3⟩
theorem BSt.look {w wr : World} {B p m : Nat} {v : Value} {xs ys : List Int} {al : List (Int × Value)} (h : BSt w wr B p m v xs al) (hg : ∀ x, getK al x = if x ∈ ys then some (.bool true) else none) (x : Int) :
    (Instr.lookup 65 (.map (some m)) (.int .i64 x) false).run Try.prog wr = .ok (.bool (decide (x ∈ ys))) wr := by
  have := run_lookupK (P := Try.prog) Try.underlying65 Try.underlying3 zero_boolB h.map x
  rw [this, hg x]
  by_cases hx : x ∈ ys <;> simp [hx]
theorem BSt.upd {w wr : World} {B p m : Nat} {v : Value} {xs : List Int} {al : List (Int × Value)} (h : BSt w wr B p m v xs al) (x : Int) :
    ∃ w', (Instr.mapUpdate 65 (.map (some m)) (.int .i64 x) (.bool true)).run Try.prog wr = .ok () w' ∧ BSt w w' B p m v xs (updK al x (.bool true)) ∧ KeepAct wr w' := by
  obtain ⟨w', h1, h2, ho⟩ := run_updK (P := Try.prog) Try.underlying65 Try.underlying3 h.map x (.bool true)
  exact ⟨w', h1, ⟨(ho.block p (Array.getElem?_eq_some_iff.1 h.blk).1 h.pm).trans h.blk, h.set.only ho (fun g hg e => h.ne_m (by rw [hg, e])), h2, h.below.trans (ho.below h.sz (fun k hk e => by have := h.mB; omega)), h.pB, h.mB, h.wB⟩, keepAct_map h.map ho⟩
theorem BSt.del {w wr : World} {B p m : Nat} {v : Value} {xs : List Int} {al : List (Int × Value)} (h : BSt w wr B p m v xs al) (x : Int) (ty : TypeId) :
    ∃ w', (Builtin.delete_ #[65, 3] ty #[.map (some m), .int .i64 x]).run Try.prog wr = .ok (.tuple #[]) w' ∧ BSt w w' B p m v xs (delK al x) ∧ KeepAct wr w' := by
  obtain ⟨w', h1, h2, ho⟩ := run_delK (P := Try.prog) (ty := ty) (ats := #[65, 3]) Try.underlying65 Try.underlying3 h.map x rfl
  exact ⟨w', h1, ⟨(ho.block p (Array.getElem?_eq_some_iff.1 h.blk).1 h.pm).trans h.blk, h.set.only ho (fun g hg e => h.ne_m (by rw [hg, e])), h2, h.below.trans (ho.below h.sz (fun k hk e => by have := h.mB; omega)), h.pB, h.mB, h.wB⟩, keepAct_map h.map ho⟩
/-- The map holds what the set holds. -/
structure Agree (al : List (Int × Value)) (xs : List Int) : Prop where
  get : ∀ x, getK al x = if x ∈ xs then some (.bool true) else none
  len : al.length = xs.length
theorem Agree.ins {al : List (Int × Value)} {xs : List Int} (h : Agree al xs) (x : Int) : Agree (updK al x (.bool true)) (ins ltI x xs) := by
  refine ⟨fun y => ?_, ?_⟩
  · rw [getK_upd, h.get y]
    by_cases e : x = y
    · subst e; simp [mem_ins]
    · have : ¬ y = x := fun k => e k.symm
      simp [mem_ins, e, this]
  · rw [len_upd, length_ins, h.len]
    have := h.get x
    by_cases hx : x ∈ xs
    · rw [if_pos hx] at this ⊢
      rw [if_pos]
      exact Classical.byContradiction fun hc => by rw [getK_none.2 hc] at this; cases this
    · rw [if_neg hx] at this ⊢
      rw [if_neg (getK_none.1 this)]
theorem Agree.del {al : List (Int × Value)} {xs : List Int} (h : Agree al xs) (hd : (al.map (·.1)).Nodup) (hs : Srt ltI xs) (x : Int) : Agree (delK al x) (del x xs) := by
  refine ⟨fun y => ?_, ?_⟩
  · rw [getK_del hd, h.get y]
    by_cases e : x = y
    · subst e; simp [mem_del]
    · have : ¬ y = x := fun k => e k.symm
      simp [mem_del, e, this]
  · rw [len_del, h.len]
    have := h.get x
    by_cases hx : x ∈ xs
    · rw [if_pos hx] at this
      have hm : x ∈ al.map (·.1) := Classical.byContradiction fun hc => by rw [getK_none.2 hc] at this; cases this
      rw [if_pos hm, del_at ordI x xs hs hx]
      have hlb : lbd ltI x xs < xs.length := by
        rcases Nat.lt_or_ge (lbd ltI x xs) xs.length with h1 | h1
        · exact h1
        · have h3 : Proofs.Yteojcdpmlhlfaaa.del x xs = xs := by rw [del_at ordI x xs hs hx, List.take_of_length_le h1, List.drop_of_length_le (by omega)]; simp
          exact absurd rfl ((mem_del x x xs).1 (by rw [h3]; exact hx)).2
      simp
      omega
    · rw [if_neg hx] at this
      rw [if_neg (getK_none.1 this), del_not x xs hx]
/-- What the last test of a round reads. -/
@[reducible] def SD (w : World) (B p m r : Nat) (v : Value) (xs : List Int) (al : List (Int × Value)) (d : Int) (W : World) : Prop :=
  (BSt w W B p m v xs al ∧ Agree al xs ∧ ∃ a b, W.heap[r]? = some (.cells #[a, b, .int .u8 d] 29 (0, 0))) ∧ W.cell? ⟨p, 0, none⟩ = some v ∧ W.cell? ⟨r, 2, none⟩ = some (.int .u8 d) ∧
    (∀ y, (Instr.lookup 65 (.map (some m)) (.int .i64 y) false).run Try.prog W = .ok (.bool (decide (y ∈ xs))) W) ∧
    ∀ ty, (Builtin.len_ #[65] ty #[.map (some m)]).run Try.prog W = .ok (.int .i64 xs.length) W
theorem SD.mk {w W : World} {B p m r : Nat} {v : Value} {xs : List Int} {al : List (Int × Value)} {d : Int} (h : BSt w W B p m v xs al) (hg : Agree al xs) (hr : ∃ a b, W.heap[r]? = some (.cells #[a, b, .int .u8 d] 29 (0, 0))) : SD w B p m r v xs al d W := by
  have hr' := hr
  obtain ⟨a, b, hr⟩ := hr
  refine ⟨⟨h, hg, hr'⟩, by rw [cell_of_blk _ _ _ _ _ h.blk]; rfl, by rw [cell_of_blk _ _ _ _ _ hr]; rfl, fun y => h.look hg.get y, fun ty => ?_⟩
  rw [← hg.len]
  exact run_lenK (P := Try.prog) Try.underlying65 h.map rfl
theorem SD.keep {w W W' : World} {B p m r : Nat} {v : Value} {xs : List Int} {al : List (Int × Value)} {d : Int} (hb : Below W.heap.size W W') (h : SD w B p m r v xs al d W) : SD w B p m r v xs al d W' := by
  obtain ⟨⟨h1, h2, a, b, h3⟩, _⟩ := h
  exact SD.mk (h1.only (Only.of_below hb) (fun k hk => hk)) h2 ⟨a, b, (hb.block r (Array.getElem?_eq_some_iff.1 h3).1).trans h3⟩
theorem SD.drew {w W : World} {B p m r : Nat} {v : Value} {xs : List Int} {al : List (Int × Value)} {d : Int} (h : SD w B p m r v xs al d W) : SD w B p m r v xs al d W.drew := by
  obtain ⟨⟨h1, h2, a, b, h3⟩, _⟩ := h
  exact SD.mk (h1.only (Only.drew (fun _ => False) W) (fun _ h => h.elim)) h2 ⟨a, b, h3⟩
theorem SD.set {w W : World} {B p m r : Nat} {v : Value} {xs : List Int} {al : List (Int × Value)} {d : Int} (h : SD w B p m r v xs al d W) : IsSetI W B v xs := h.1.1.set
set_option maxRecDepth 100000 in
set_option maxHeartbeats 4000000 in
theorem sets_walk (A : Option Addr) (n c : Nat) (w : World) (hn : (decide ((100 : Int) < (n : Int))) = false) (hn' : n ≤ 100)
    (hA : ∀ k, k < n → ∃ g o a b d, A = some ⟨g, o, none⟩ ∧ g < w.heap.size ∧ w.cell? ⟨g, o + k * 3, none⟩ = some (.int .u8 a) ∧ w.cell? ⟨g, o + k * 3 + 1, none⟩ = some (.int .u8 b) ∧ w.cell? ⟨g, o + k * 3 + 2, none⟩ = some (.int .u8 d) ∧ (0 ≤ a ∧ a ≤ 255) ∧ (0 ≤ b ∧ b ≤ 255) ∧ 0 ≤ d ∧ d ≤ 255) :
    Calls Try.prog 8 #[.slice A n c] w fun e w' => e = .returned (.bool true) ∧ Below w.heap.size w w' := by
  have HA := Lib.hid hA; clear hA
  refine (callsIn_wide (n := 3)).1 ?_
  refine callsIn_of_wp_marks Try.func8 rfl trivial ?_ rfl
  simp only [Try.ntmps8, List.size_toArray, List.length_cons, List.length_nil, Nat.reduceAdd, Nat.reduceSub, Array.replicate_succ, Array.replicate_zero, List.push_toArray, List.append_toArray, List.nil_append, List.cons_append]
  refine wpIn_wide.2 ?_
  have hmm := fun W => run_makeMap (P := Try.prog) 65 W
  go_wp2_with fail
  refine (awake _).mono ?_
  rintro e w1 ⟨rfl, hb1⟩
  have HB1 := Lib.hid hb1; clear hb1
  go_wp2
  obtain ⟨W1, hW1⟩ : ∃ W1, W1 = (w1.alloc (.cells #[.slice none 0 0] 75)).alloc (.map #[] 0) := ⟨_, rfl⟩
  have hinv : BSt w W1 w.heap.size w1.heap.size (w1.heap.size + 1) (.slice none 0 0) [] [] := by
    have hs := HB1.out.size
    have hm := MapIs.new (w1.alloc (.cells #[.slice none 0 0] 75)) .i64
    rw [World.size_alloc] at hm
    rw [hW1]
    refine ⟨(Below.heap_alloc _ _ _ (by simp)).trans (heap_alloc_new w1 _), ⟨World.ownsRow_nil _ _ _ _, List.Pairwise.nil⟩, hm, (HB1.out.alloc hs _).alloc (by simp; omega) _, hs, by omega, Nat.le_refl _⟩
  rw [← hW1]
  clear hW1 HB1
  generalize w1.heap.size = p at *
  obtain ⟨B, HB⟩ : ∃ B, Hid (w.heap.size = B) := ⟨_, rfl⟩
  rw [HB.out] at hinv
  have HINV := Lib.hid hinv; clear hinv
  obtain ⟨m, hm⟩ : ∃ m, m = p + 1 := ⟨_, rfl⟩
  rw [← hm] at HINV ⊢
  clear hm
  have hag : Agree [] [] := ⟨fun x => by simp [getK], rfl⟩
  have HAG := Lib.hid hag; clear hag
  obtain ⟨w0, rfl⟩ : ∃ w0 : World, w0 = W1 := ⟨_, rfl⟩
  go_loopw [21] (fun i wr => ∃ (k : Nat) (v : Value) (xs : List Int) (al : List (Int × Value)), k ≤ n ∧ i = .int .i64 k ∧ xs.length ≤ k ∧ Hid (BSt w wr B p m v xs al) ∧ Hid (Agree al xs)) (fun i _ => n - (intOf i).toNat)
  case atStart => exact ⟨0, _, [], [], by omega, rfl, by simp, HINV, HAG⟩
  case round =>
    obtain ⟨k, v, xs, al, hk, rfl, hlk, hI, hG⟩ := hrel
    by_cases hlt : k < n
    · obtain ⟨g, o, a, b, d, rfl, hgl, c0, c1, c2, a01, b01, d01⟩ := HA.out k hlt
      rw [HB.out] at hgl
      have e0 := (hI.out.below.cell (p := ⟨g, o + k * 3, none⟩) hgl).trans c0
      have e1 := (hI.out.below.cell (p := ⟨g, o + k * 3 + 1, none⟩) hgl).trans c1
      have e2 := (hI.out.below.cell (p := ⟨g, o + k * 3 + 2, none⟩) hgl).trans c2
      clear c0 c1 c2
      have hI2 : Hid (BSt w (wr.alloc (.cells #[.int .u8 a, .int .u8 b, .int .u8 d] 29)) B p m v xs al) :=
        hI.out.only (Only.alloc (fun _ => False) wr _) (fun _ h => h.elim)
      obtain ⟨x, hx⟩ : ∃ x, b % 30 = x := ⟨_, rfl⟩
      obtain ⟨W2, hW2⟩ : ∃ W2, W2 = wr.alloc (.cells #[.int .u8 a, .int .u8 b, .int .u8 d] 29) := ⟨_, rfl⟩
      have hh2 : W2.heap[wr.heap.size]? = some (.cells #[.int .u8 a, .int .u8 b, .int .u8 d] 29 (0, 0)) := by rw [hW2]; exact heap_alloc_new wr _
      rw [← hW2] at hI2
      by_cases hk3 : a % 3 = 0
      · have hk3' : (a % 3 == 0) = true := by simp [hk3]
        clear hk3
        go_wp2_with fail
        rw [hx, ← hW2]
        clear hW2 hI e0 e1 e2
        generalize wr.heap.size = r at *
        have HDROP := Lib.hid (fun W (h : BSt w W B p m v xs al) => h.drop (by omega) x)
        have hlk2 := hI2.out.look hG.out.get x
        have hlk2' : (Instr.lookup 65 (.map (some m)) (.int .i64 x) false).run Try.prog W2.drew = .ok (.bool (decide (x ∈ xs))) W2.drew := (hI2.out.only (Only.drew (fun _ => False) _) (fun _ h => h.elim)).look hG.out.get x
        have hI2d : BSt w W2.drew B p m v xs al := hI2.out.only (Only.drew (fun _ => False) _) (fun _ h => h.elim)
        have HI2D := Lib.hid hI2d; clear hI2d
        refine wp_region_noPanic ?_
        go_region_with (go_at_call 34; refine (HDROP.out _ HI2D.out).mono ?_; rintro e w3 ⟨v', rfl, h3, hka3⟩; have hka3' := Lib.hid hka3; clear hka3; have hlk3 := h3.look hG.out.get x; have h3' := Lib.hid h3; clear h3)
        all_goals
          refine NoPanic.normal ?_
          have hq5 : (decide (x ∈ xs) != decide (x ∈ xs)) = false := by simp
          obtain ⟨w4, hdel, h4, hka4⟩ := h3'.out.del x 0
          have hG4 : Agree (delK al x) (del x xs) := hG.out.del hI2.out.map.nodup hI2.out.set.srt x
          have hlen4 : (del x xs).length ≤ xs.length := by unfold Proofs.Yteojcdpmlhlfaaa.del; exact List.length_filter_le _ _
          have hr4 : ∃ a b, w4.heap[r]? = some (.cells #[a, b, .int .u8 d] 29 (0, 0)) := ⟨_, _, hka4 _ _ _ (hka3'.out _ _ _ hh2)⟩
          have hS4 := SD.mk h4 hG4 hr4
          have HS4 := Lib.hid hS4
          clear h4 hG4 hS4 hr4 hka4 hka3' hlk2 hlk2' hlk3 HDROP HI2D hI2 h3'
          generalize hys : Proofs.Yteojcdpmlhlfaaa.del x xs = ys at *
          go_wp2_with fail
          have hS5 := HS4.out
          go_region_held3 (fun W => (BSt w W B p m v' ys (delK al x) ∧ Agree (delK al x) ys ∧ ∃ a b, W.heap[r]? = some (.cells #[a, b, .int .u8 d] 29 (0, 0))) ∧ W.cell? ⟨p, 0, none⟩ = some v' ∧ W.cell? ⟨r, 2, none⟩ = some (.int .u8 d) ∧
            (∀ y, (Instr.lookup 65 (.map (some m)) (.int .i64 y) false).run Try.prog W = .ok (.bool (decide (y ∈ ys))) W) ∧
            ∀ ty, (Builtin.len_ #[65] ty #[.map (some m)]).run Try.prog W = .ok (.int .i64 ys.length) W) (first | assumption | exact SD.drew (by assumption) | exact SD.keep (by assumption) (by assumption))
            (first
              | (go_at_call 36; refine (lenI B _ _ _ (SD.set (by assumption))).mono ?_; rintro e w5 ⟨rfl, hb5⟩)
              | (go_at_call 37; refine (hasI B _ _ _ _ (SD.set (by assumption)) (by omega)).mono ?_; rintro e w5 ⟨rfl, hb5⟩))
          all_goals
            rename_i hfin
            have HFIN := Lib.hid hfin.1
            clear hS5 hfin HS4
            go_wp2
            go_roundw
            case rel => exact ⟨k + 1, v', ys, _, by omega, by go_num, by omega, HFIN.out.1, HFIN.out.2.1⟩
            case measure => simp [intOf]; omega
      · have hk3' : (a % 3 == 0) = false := by simp [hk3]
        clear hk3
        go_wp2_with fail
        rw [hx, ← hW2]
        clear hW2 hI e0 e1 e2
        generalize wr.heap.size = r at *
        have HADD := Lib.hid (fun W (h : BSt w W B p m v xs al) => h.add (by omega) x)
        have hlk2 := hI2.out.look hG.out.get x
        have hlk2' : (Instr.lookup 65 (.map (some m)) (.int .i64 x) false).run Try.prog W2.drew = .ok (.bool (decide (x ∈ xs))) W2.drew := (hI2.out.only (Only.drew (fun _ => False) _) (fun _ h => h.elim)).look hG.out.get x
        have hI2d : BSt w W2.drew B p m v xs al := hI2.out.only (Only.drew (fun _ => False) _) (fun _ h => h.elim)
        have HI2D := Lib.hid hI2d; clear hI2d
        refine wp_region_noPanic ?_
        go_region_with (go_at_call 35; refine (HADD.out _ HI2D.out).mono ?_; rintro e w3 ⟨v', rfl, h3, hka3⟩; have hka3' := Lib.hid hka3; clear hka3; have hlk3 := h3.look hG.out.get x; have h3' := Lib.hid h3; clear h3)
        all_goals
          refine NoPanic.normal ?_
          have hq5 : ((!decide (x ∈ xs)) == decide (x ∈ xs)) = false := by cases decide (x ∈ xs) <;> rfl
          obtain ⟨w4, hdel, h4, hka4⟩ := h3'.out.upd x
          have hG4 : Agree (updK al x (.bool true)) (ins ltI x xs) := hG.out.ins x
          have hlen4 : (ins ltI x xs).length ≤ xs.length + 1 := by rw [length_ins]; split <;> omega
          have hr4 : ∃ a b, w4.heap[r]? = some (.cells #[a, b, .int .u8 d] 29 (0, 0)) := ⟨_, _, hka4 _ _ _ (hka3'.out _ _ _ hh2)⟩
          have hS4 := SD.mk h4 hG4 hr4
          have HS4 := Lib.hid hS4
          clear h4 hG4 hS4 hr4 hka4 hka3' hlk2 hlk2' hlk3 HADD HI2D hI2 h3'
          generalize hys : ins ltI x xs = ys at *
          go_wp2_with fail
          have hS5 := HS4.out
          go_region_held3 (fun W => (BSt w W B p m v' ys (updK al x (.bool true)) ∧ Agree (updK al x (.bool true)) ys ∧ ∃ a b, W.heap[r]? = some (.cells #[a, b, .int .u8 d] 29 (0, 0))) ∧ W.cell? ⟨p, 0, none⟩ = some v' ∧ W.cell? ⟨r, 2, none⟩ = some (.int .u8 d) ∧
            (∀ y, (Instr.lookup 65 (.map (some m)) (.int .i64 y) false).run Try.prog W = .ok (.bool (decide (y ∈ ys))) W) ∧
            ∀ ty, (Builtin.len_ #[65] ty #[.map (some m)]).run Try.prog W = .ok (.int .i64 ys.length) W) (first | assumption | exact SD.drew (by assumption) | exact SD.keep (by assumption) (by assumption))
            (first
              | (go_at_call 36; refine (lenI B _ _ _ (SD.set (by assumption))).mono ?_; rintro e w5 ⟨rfl, hb5⟩)
              | (go_at_call 37; refine (hasI B _ _ _ _ (SD.set (by assumption)) (by omega)).mono ?_; rintro e w5 ⟨rfl, hb5⟩))
          all_goals
            rename_i hfin
            have HFIN := Lib.hid hfin.1
            clear hS5 hfin HS4
            go_wp2
            go_roundw
            case rel => exact ⟨k + 1, v', ys, _, by omega, by go_num, by omega, HFIN.out.1, HFIN.out.2.1⟩
            case measure => simp [intOf]; omega
    · obtain rfl : k = n := by omega
      have hcp : wr.cell? ⟨p, 0, none⟩ = some v := by rw [cell_of_blk _ _ _ _ _ hI.out.blk]; rfl
      obtain ⟨A2, c2, rfl, _, _, _⟩ := isset_cells hI.out.set
      have HLIST := Lib.hid (listI B _ xs wr hI.out.set (by omega))
      go_wp2_with fail
      refine HLIST.out.mono ?_
      rintro e w4 ⟨v4, rfl, hs4, hb4⟩
      clear HLIST
      obtain ⟨A4, c4, rfl, _, _, _⟩ := isset_cells hs4
      have hI4 : BSt w w4 B p m (.slice A2 xs.length c2) xs al := hI.out.only (Only.of_below hb4) (fun _ h => h)
      have hcp4 : w4.cell? ⟨p, 0, none⟩ = some (.slice A2 xs.length c2) := by rw [cell_of_blk _ _ _ _ _ hI4.blk]; rfl
      have hpl : p < w4.heap.size := (Array.getElem?_eq_some_iff.1 hI4.blk).1
      have HI4 := Lib.hid (And.intro hI4 hs4)
      clear hs4 hb4 hI hI4 hcp
      go_wp2_with fail
      refine (all _ _).mono ?_
      rintro e w5 ⟨rfl, rfl⟩
      obtain ⟨W5, hW5⟩ : ∃ W5, W5 = (w4.alloc (.cells #[.slice none 0 0] 64)).alloc (.cells #[.slice A2 xs.length c2] 75) := ⟨_, rfl⟩
      have ho5 : Only (fun _ => False) w4 W5 := by rw [hW5]; exact (Only.alloc _ _ _).trans (Only.alloc (fun _ => False) _ _) (fun _ _ => id)
      have hq5 : W5.heap[w4.heap.size]? = some (.cells #[.slice none 0 0] 64 (0, 0)) := by rw [hW5]; exact (Below.heap_alloc _ _ _ (by simp)).trans (heap_alloc_new w4 _)
      have hr5 : W5.heap[w4.heap.size + 1]? = some (.cells #[.slice A2 xs.length c2] 75 (0, 0)) := by
        rw [hW5]; have := heap_alloc_new (w4.alloc (.cells #[.slice none 0 0] 64)) (.cells #[.slice A2 xs.length c2] 75); rwa [World.size_alloc] at this
      have hI5 : BSt w W5 B p m (.slice A2 xs.length c2) xs al := HI4.out.1.only ho5 (fun _ h => h.elim)
      have hs5 := HI4.out.2.only ho5 (fun _ _ => id)
      rw [World.size_alloc, ← hW5]
      have hqp : p < w4.heap.size := hpl
      have hBp := HI4.out.1.pB
      clear hW5 ho5 HI4 hcp4 hpl
      generalize w4.heap.size = q at *
      obtain ⟨D, hD⟩ : ∃ D, W5.heap.size = D := ⟨_, rfl⟩
      have hqD : q + 1 < D := by rw [← hD]; exact (Array.getElem?_eq_some_iff.1 hr5).1
      obtain ⟨A2', c2', e2, hcells2, hmax2, _⟩ := isset_cells hI5.set
      cases e2
      have hmq : m ≠ q := by
        rintro rfl
        obtain ⟨es, c, hh, _⟩ := hI5.map.blk
        rw [hq5] at hh; cases hh
      have hR : ∀ W, Only (fun j => j = q) W5 W → (CellsAt A2 xs W ∧ W.cell? ⟨q + 1, 0, none⟩ = some (.slice A2 xs.length c2)) := fun W hO => by
        refine ⟨CellsAt.only hcells2 hO (fun g o e h => ?_), ?_⟩
        · subst e; exact own_ne_blk hI5.set.own hq5 (by decide) (by simp [Value.ownBlock, h])
        · rw [hO.cell (p := ⟨q + 1, 0, none⟩) (by show q + 1 < W5.heap.size; omega) (by show ¬ (q + 1 = q); omega), cell_of_blk _ _ _ _ _ hr5]; rfl
      have HR := Lib.hid hR
      have HS := Lib.hid (And.intro hI5 (And.intro hs5 hq5))
      clear hI5 hs5 hq5 hr5 hR hcells2
      go_wp2_with fail
      refine (wpIn_wide (n := 3)).1 ?_
      generalize hact : (Act.mk _ _ : Act) = a0
      refine wpIn_rf_steps (n := 3) rfl (by omega) (gf := 68) (lb := #[.pointer (some ⟨q + 1, 0, none⟩)]) (by rw [← hact]; rfl) trivial (enters_of Try.func68 (by kernel_rfl) rfl) (encs := encs xs) (N := xs.length) (fun _ => rfl)
        (Rd := fun W => CellsAt A2 xs W ∧ W.cell? ⟨q + 1, 0, none⟩ = some (.slice A2 xs.length c2))
        (fun J Jx hR hY W hJ => all_in 2 (q + 1) _ A2 c2 xs hmax2 J Jx (fun k W h => (hR k W h).1) hY W (hR 0 W hJ).2 hJ)
        (fun k W => ∃ v, W.heap[q]? = some (.cells #[v] 64 (0, 0)) ∧ RowAt W (D + 2) 3 v ((xs.take k).map (Value.int .i64)) ∧ Only (fun j => j = q) W5 W)
        (fun _ _ _ => False)
        ?rd ?I ?Ix ?start (fun k a' W => ∃ y, xs[k]? = some y ∧ a' = Act.mk ((a0.tmps.setIfInBounds 74 (.int .i64 y)).setIfInBounds 10 (.int .i64 y)) []) ?Ax ?assign ?body ?done ?stop
      case rd => exact fun k W h => HR.out W h.choose_spec.2.2
      case I =>
        rw [hD]
        rintro k X Y ⟨v, h1, h2, h3⟩ hO
        exact ⟨v, (hO.block q (by have := h3.size; omega) (by omega)).trans h1, RowAt.only hO h2 (fun g hg e => by have := (h2.lt hg).2; omega), h3.trans hO (fun x hx e => by omega)⟩
      case Ix => exact fun c k X Y h _ => h
      case start =>
        rintro W hO hlt
        exact ⟨_, (hO.block q (by omega) id).trans HS.out.2.2, by simpa using RowAt.nil W (D + 2) _, hO.mono (fun _ _ h => h.elim)⟩
      case Ax => exact fun k a' A B h _ => h
      case assign =>
        intro k W K hk hI _ hK
        obtain ⟨y, hy⟩ : ∃ y, xs[k]? = some y := ⟨_, List.getElem?_eq_getElem hk⟩
        have HY := Lib.hid hy
        have he : encs xs k = #[.int .i64 y] := by simp [encs, hy]
        rw [he]
        clear hy he
        subst hact
        gi_wp2
        exact hK _ _ (Only.refl _ _) ⟨y, HY.out, rfl⟩
      case body =>
        rw [hD]
        rintro k a' W hk ⟨v, hq, hrow, hO⟩ ⟨y, hy, rfl⟩ hDd ⟨r, hDl⟩
        have hcq : W.cell? ⟨q, 0, none⟩ = some v := by rw [cell_of_blk _ _ _ _ _ hq]; rfl
        have hfq : W.frozen? ⟨q, 0, none⟩ = false := by simp [World.frozen?, hq]
        have hlen6 : ((xs.take k).map (Value.int .i64)).length = k := by simp; omega
        have hDsz : D + 1 < W.heap.size := (Array.getElem?_eq_some_iff.1 hDl).1
        obtain ⟨A6, c6, rfl⟩ := hrow.slice
        rw [hlen6] at hrow hcq hq
        obtain ⟨i, hi, hz0, hz1, hz2⟩ := info_parts infoI
        have ho3 := Only.alloc (fun _ => False) W (.cells #[.int .i64 y] 3)
        have hnew : (W.alloc (.cells #[.int .i64 y] 3)).cell? ⟨W.heap.size, 0, none⟩ = some (.int .i64 y) := by
          rw [cell_of_blk _ _ _ _ _ (heap_alloc_new W _)]; rfl
        obtain ⟨v', w3, hrun, hr4, ho4, hfr⟩ := RowAt.append (P := Try.prog) 64 64 3 i _ 8 Try.underlying64 hi hz0 hz1 hz2 rfl (RowAt.only ho3 hrow (fun _ _ => id)) ⟨W.heap.size, 0, none⟩ (.int .i64 y) hnew rfl (by have := ho3.size; omega) (by rw [hlen6]; simp [maxLen]; omega) (by rw [hlen6]; omega)
        have hlen7 : ((xs.take k).map (Value.int .i64) ++ [Value.int .i64 y]) = (xs.take (k + 1)).map (Value.int .i64) := by rw [take_snoc' xs k y hy]; simp
        rw [hlen7] at hr4
        have hlen8 : ((xs.take (k + 1)).map (Value.int .i64)).length = k + 1 := by simp; omega
        rcases hr4.form with ⟨_, h⟩ | ⟨g7, o7, c7, rfl, _⟩
        · rw [h] at hlen8; simp at hlen8
        rw [hlen8] at hr4 hrun
        have hqlt : q < W.heap.size := (Array.getElem?_eq_some_iff.1 hq).1
        have hown : ∀ g, (Value.slice A6 k c6).ownBlock = some g → D + 2 ≤ g := fun g hg => (hrow.lt hg).2
        have h13 := (ho3.mono (S' := fun j => j = q ∨ (Value.slice A6 k c6).ownBlock = some j) (fun _ _ h => h.elim)).trans ho4 (fun _ _ h => .inr h)
        have hq3 : w3.heap[q]? = some (.cells #[.slice A6 k c6] 64 (0, 0)) := (ho4.block q (by simp; omega) (fun h => by have := hown q h; omega)).trans ((ho3.block q hqlt id).trans hq)
        have hcq3 : w3.cell? ⟨q, 0, none⟩ = some (.slice A6 k c6) := by rw [cell_of_blk _ _ _ _ _ hq3]; rfl
        have hfq3 : w3.frozen? ⟨q, 0, none⟩ = false := by simp [World.frozen?, hq3]
        have h14 := h13.trans (Only.setCell w3 ⟨q, 0, none⟩ (.slice (some ⟨g7, o7, none⟩) (k + 1) c7)) (fun _ _ h => .inl h)
        have hfin : rfPost D (fun W => ∃ v, W.heap[q]? = some (.cells #[v] 64 (0, 0)) ∧ RowAt W (D + 2) 3 v ((xs.take (k + 1)).map (Value.int .i64)) ∧ Only (fun j => j = q) W5 W)
            (fun c W => False) W .normal ⟨#[], []⟩ (w3.setCell ⟨q, 0, none⟩ (.slice (some ⟨g7, o7, none⟩) (k + 1) c7)) := by
          refine ⟨h14.block D (by omega) ?_, h14.block (D + 1) (by omega) ?_, _, ?_, RowAt.only (Only.setCell _ _ _) hr4 (fun g hg e => hr4.ne_blk hq3 (by decide) (by rw [hg, e])), hO.trans h14 ?_⟩
          · rintro (h | h)
            · omega
            · have := hown _ h; omega
          · rintro (h | h)
            · omega
            · have := hown _ h; omega
          · simp [World.setCell, Array.getElem?_modify, hq3]
          · rintro j hj (h | h)
            · exact h
            · have := hown j h; omega
        have HF := Lib.hid hfin
        have HRUN := Lib.hid hrun
        clear hfin hrun h14 h13 hq3 ho4 hr4 hrow hq hO hDd hDl hown hfr hlen7 hlen8 hlen6 hnew ho3 hi hz0 hz1 hz2 hy
        subst hact
        simp only [List.setIfInBounds_toArray, List.set_cons_zero, List.set_cons_succ]
        gi_wp2_with (first | (gi_at_builtin; refine wpListIn_append_run _ rfl _ _ _ _ rfl _ _ rfl rfl _ _ HRUN.out ?_) | fail)
        exact HF.out
      case stop => exact fun c k W h _ => h.elim
      case done =>
        rw [hD]
        rintro W ⟨v, hq, hrow, hO⟩ hDd
        rw [List.take_of_length_le (Nat.le_refl _)] at hrow
        obtain ⟨A6, c6, rfl⟩ := hrow.slice
        subst hact
        have hSW : BSt w W B p m (.slice A2 xs.length c2) xs al := by
          have h := HS.out.1
          refine ⟨(hO.block p (Array.getElem?_eq_some_iff.1 h.blk).1 (by omega)).trans h.blk, h.set.only hO (fun g hg e => own_ne_blk h.set.own HS.out.2.2 (by decide) (by rw [hg, e])), h.map.only hO hmq, h.below.trans (hO.below h.sz (fun j hj e => by omega)), h.pB, h.mB, h.wB⟩
        have h4 : IsSetI W wr.heap.size (.slice A4 xs.length c4) xs := HS.out.2.1.only hO (fun g hg e => own_ne_blk HS.out.2.1.own HS.out.2.2 (by decide) (by rw [hg, e]))
        obtain ⟨A4', c4', e4, hcells4, hmax4, _⟩ := isset_cells h4
        cases e4
        have hcq : W.cell? ⟨q, 0, none⟩ = some (.slice A6 (xs.map (Value.int .i64)).length c6) := by rw [cell_of_blk _ _ _ _ _ hq]; rfl
        rw [List.length_map] at hcq hrow
        have HC4 := Lib.hid hcells4
        have HL := Lib.hid (fun x => hSW.look hG.out.get x)
        have HSW := Lib.hid hSW
        have HRO := Lib.hid hrow
        have HSRT := Lib.hid hSW.set.srt
        clear hSW h4 hcells4 hrow hq hO HS HR
        go_wp2_with fail
        go_loopw [81] (fun i wr => ∃ k2 : Nat, k2 ≤ xs.length ∧ i = .int .i64 k2 ∧ wr = W) (fun i _ => xs.length - (intOf i).toNat)
        case atStart => exact ⟨0, by omega, rfl, rfl⟩
        case round =>
          obtain ⟨k2, hk2, rfl, rfl⟩ := hrel
          by_cases hlt2 : k2 < xs.length
          · obtain ⟨g, o, rfl, hcell⟩ := HC4.out k2 hlt2
            have hy2 : xs[k2]? = some xs[k2] := List.getElem?_eq_getElem hlt2
            have hd2 : decide (xs[k2] ∈ xs) = true := decide_eq_true (List.getElem_mem hlt2)
            have hlook := HL.out xs[k2]
            rw [hd2] at hlook
            clear hd2
            have hk2I : (k2 : Int) < (xs.length : Int) := by omega
            rcases (by omega : k2 = 0 ∨ 0 < k2) with rfl | hpos
            · clear hy2
              generalize xs[0] = y at *
              simp only [Nat.add_zero] at hcell
              rw [show ((0 : Nat) : Int) = 0 from rfl] at hk2I ⊢
              go_wp2
              go_roundw
              case rel => exact ⟨1, by omega, rfl, by trivial⟩
              case measure => simp [intOf]; omega
            · obtain ⟨j, rfl⟩ : ∃ j, k2 = j + 1 := ⟨k2 - 1, by omega⟩
              obtain ⟨g', o', e, hcell2⟩ := HC4.out j (by omega)
              cases e
              have hlt3 := srt_lt HSRT.out j _ _ (List.getElem?_eq_getElem (by omega)) hy2
              clear hy2
              generalize xs[j + 1] = y at *
              generalize xs[j] = y2 at *
              obtain ⟨u, hu⟩ : ∃ u, u = j + 1 := ⟨_, rfl⟩
              rw [← hu] at hcell hk2I hk2 hlt2 ⊢
              have huj : (u : Int) - 1 = (j : Int) := by omega
              have hu0 : (0 : Int) < (u : Int) := by omega
              have hjI : (j : Int) < (xs.length : Int) := by omega
              have hge : decide (y ≤ y2) = false := by simp; omega
              have HU := Lib.hid hu
              clear hu hpos hlt3
              go_wp2
              go_roundw
              case rel => exact ⟨u + 1, by omega, by go_num, by trivial⟩
              case measure => simp [intOf]; omega
          · obtain rfl : k2 = xs.length := by omega
            have hlenr : ∀ ty, (Builtin.len_ #[65] ty #[.map (some m)]).run Try.prog wr = .ok (.int .i64 xs.length) wr := fun ty => by
              rw [← hG.out.len]
              exact run_lenK (P := Try.prog) Try.underlying65 HSW.out.map rfl
            have hee : ((xs.length : Int) == (xs.length : Int)) = true := by simp
            have heq : Calls Try.prog 40 #[.slice A4 xs.length c4, .slice A6 xs.length c6] wr fun e w' => e = .returned (.bool true) ∧ ∃ m, w' = wr.drewN m := by
              refine (equal A4 A6 c4 c6 xs xs wr HC4.out (fun i hi => ?_) hmax4 hmax4).mono ?_
              · rcases HRO.out.form with ⟨_, h⟩ | ⟨g, o, c2, hv, _⟩
                · have h0 : xs.length = 0 := by rw [← List.length_map (f := Value.int .i64), h]; rfl
                  omega
                · obtain ⟨rfl, _, _⟩ := Value.slice.inj hv
                  exact ⟨g, o, rfl, HRO.out.cell i _ (by rw [List.getElem?_map, List.getElem?_eq_getElem hi]; rfl)⟩
              · rintro e w' ⟨rfl, h⟩
                exact ⟨by simp, h⟩
            have HEQ := Lib.hid heq
            clear heq HL
            go_wp2_with fail
            refine HEQ.out.mono ?_
            rintro e w6 ⟨rfl, mq, rfl⟩
            go_wp2
            refine ⟨by simp, .inl ⟨_, _, rfl, run_takeDeferred (w := wr.drewN mq) hDd, ?_⟩⟩
            refine ⟨_, results_tmp rfl _ _ _, rfl, ?_⟩
            have hBD : B < D := by omega
            have h1 : Below B w (wr.drewN mq) := HSW.out.below.trans ((Only.drewN (fun _ => False) wr mq).below HSW.out.sz (fun _ _ => id))
            rw [HB.out]
            exact h1.trans ((Only.putObj _ _ _).below (Nat.le_trans HSW.out.wB h1.size) (fun j hj e => by omega))
theorem sets_far (A : Option Addr) (n c : Nat) (w : World) (hn : (decide ((100 : Int) < (n : Int))) = true) :
    Calls Try.prog 8 #[.slice A n c] w fun e w' => e = .returned (.bool true) ∧ Below w.heap.size w w' := by
  go_enter Try.func8, Try.ntmps8
  go_wp2_with fail
  refine (awake _).mono ?_
  rintro e w1 ⟨rfl, hb1⟩
  have HB1 := Lib.hid hb1; clear hb1
  go_wp2
  all_goals go_ret
  all_goals exact ⟨rfl, HB1.out⟩
theorem sets_all (A : Option Addr) (n c : Nat) (w : World)
    (hA : ∀ k, k < n → ∃ g o a b d, A = some ⟨g, o, none⟩ ∧ g < w.heap.size ∧ w.cell? ⟨g, o + k * 3, none⟩ = some (.int .u8 a) ∧ w.cell? ⟨g, o + k * 3 + 1, none⟩ = some (.int .u8 b) ∧ w.cell? ⟨g, o + k * 3 + 2, none⟩ = some (.int .u8 d) ∧ (0 ≤ a ∧ a ≤ 255) ∧ (0 ≤ b ∧ b ≤ 255) ∧ 0 ≤ d ∧ d ≤ 255) :
    Calls Try.prog 8 #[.slice A n c] w fun e w' => e = .returned (.bool true) ∧ Below w.heap.size w w' := by
  by_cases hn : n ≤ 100
  · exact sets_walk A n c w (by simp; omega) hn hA
  · exact sets_far A n c w (by simp; omega)
end Go.Proofs.Yteojcdpmlhlfaaa
