/- What bag.Groups[int] answers: Find goes from one to the next; Join makes two groups one. Conditions: each goes on to a lesser one, none below 0. -/
import Derived.Test.YteojcdpmlhlfaaaMaps
import Derived.Test.YteojcdpmlhlfaaaProg
import Derived.WalkLawsBesides
import Derived.WalkSpells
namespace Go.Proofs.Yteojcdpmlhlfaaa
open Go.RowKit

/-- Each goes on to a lesser one. -/
def GoodUp (up : Int → Option Int) : Prop := ∀ x y, up x = some y → 0 ≤ y ∧ y < x
inductive Root (up : Int → Option Int) : Int → Int → Prop
  | here {x : Int} : up x = none → Root up x x
  | step {x y r : Int} : up x = some y → Root up y r → Root up x r
theorem Root.fn {up : Int → Option Int} {x r r' : Int} (h : Root up x r) : Root up x r' → r = r' := by
  induction h with
  | here h =>
    intro h'
    cases h' with
    | here _ => rfl
    | step k _ => rw [h] at k; cases k
  | step h _ ih =>
    intro h'
    cases h' with
    | here k => rw [h] at k; cases k
    | step k k' => rw [h] at k; cases k; exact ih k'
theorem Root.none {up : Int → Option Int} {x r : Int} (h : Root up x r) : up r = none := by
  induction h with
  | here h => exact h
  | step _ _ ih => exact ih
theorem Root.le {up : Int → Option Int} (g : GoodUp up) {x r : Int} (h : Root up x r) : r ≤ x ∧ (0 ≤ x → 0 ≤ r) := by
  induction h with
  | here _ => exact ⟨Int.le_refl _, id⟩
  | step h _ ih => have := g _ _ h; exact ⟨by omega, fun _ => ih.2 this.1⟩
def upTo (up : Int → Option Int) (a b : Int) : Int → Option Int := fun x => if x = a then some b else up x
theorem good_upTo {up : Int → Option Int} (g : GoodUp up) {a b : Int} (h0 : 0 ≤ b) (h : b < a) : GoodUp (upTo up a b) := by
  intro x y hxy
  unfold upTo at hxy
  split at hxy
  · rename_i e; injection hxy with hxy; omega
  · exact g x y hxy
/-- Behind a Join each of the two groups has the lesser of their two least. -/
theorem root_upTo {up : Int → Option Int} {a b x r : Int} (ha : up a = none) (hb : up b = none) (hab : b ≠ a) (h : Root up x r) : Root (upTo up a b) x (if r = a then b else r) := by
  induction h with
  | @here x h =>
    split
    · rename_i e
      exact .step (y := b) (by simp [upTo, e]) (.here (by simp [upTo, hab, hb]))
    · rename_i e
      exact .here (by simp [upTo, e, h])
  | @step x y r h _ ih =>
    refine .step (y := y) ?_ ih
    unfold upTo
    rw [if_neg]
    · exact h
    · rintro rfl
      rw [ha] at h; cases h

structure GroupsAt (w : World) (base p : Nat) (up : Int → Option Int) : Prop where
  good : GoodUp up
  at_ : ∃ mo : Option Nat, w.heap[p]? = some (.cells #[.map mo] 26 (0, 0)) ∧ (mo = none → ∀ x, up x = none) ∧
    ∀ m, mo = some m → base ≤ m ∧ ∃ al, MapIs w m .i64 al ∧ ∀ x, getK al x = (up x).map (Value.int .i64)
theorem zero_int : ∀ w : World, (zeroValue 3).run Try.prog w = .ok (.int .i64 0) w := fun w => by kernel_rfl

set_option maxHeartbeats 400000 in
theorem gfind (base p : Nat) (up : Int → Option Int) (x r : Int) (w : World) (h : GroupsAt w base p up) (hx : 0 ≤ x) (hr : Root up x r) :
    Calls Try.prog 12 #[.pointer (some ⟨p, 0, none⟩), .int .i64 x] w fun e w' => e = .returned (.int .i64 r) ∧ w = w' := by
  obtain ⟨hg, mo, hp, hno, hso⟩ := h
  have hc : w.cell? ⟨p, 0, none⟩ = some (.map mo) := by rw [cell_of_blk _ _ _ _ _ hp]; rfl
  have hlook : ∀ x, ∃ v, (Instr.lookup 24 (.map mo) (.int .i64 x) true).run Try.prog w = .ok (.tuple #[.int .i64 v, .bool (up x).isSome]) w ∧ (∀ y, up x = some y → v = y) := by
    intro x
    cases mo with
    | none =>
      refine ⟨0, ?_, fun y hy => by rw [hno rfl x] at hy; cases hy⟩
      rw [hno rfl x]
      exact run_lookupK_nil_ok Try.underlying24 Try.underlying3 zero_int w x
    | some m =>
      obtain ⟨_, al, hm, hget⟩ := hso m rfl
      have hl := run_lookupK_ok (P := Try.prog) Try.underlying24 Try.underlying3 zero_int hm x
      rw [hget x] at hl
      cases hu : up x with
      | none => rw [hu] at hl; exact ⟨0, hl, fun y hy => by cases hy⟩
      | some y => rw [hu] at hl; exact ⟨y, hl, fun z hz => by injection hz⟩
  have HG := Lib.hid hg; have HL := Lib.hid hlook; have HR := Lib.hid hr
  clear hg hlook hno hso hp hr
  go_enter Try.func12, Try.ntmps12
  go_wp2
  go_loop [1] (fun v => ∃ z : Int, 0 ≤ z ∧ v = .int .i64 z ∧ Hid (Root up z r)) (fun v => (intOf v).toNat)
  case atStart => exact ⟨x, hx, rfl, HR.out⟩
  case round =>
    obtain ⟨z, hz, rfl, hrz⟩ := hrel
    obtain ⟨v, hl, hv⟩ := HL.out z
    cases hu : up z with
    | none =>
      have hzr : z = r := by
        cases hrz.out with
        | here _ => rfl
        | step k _ => rw [hu] at k; cases k
      rw [hu] at hl
      have HZ := Lib.hid hzr
      clear hv hu hzr
      simp only [Option.isSome_none] at hl
      go_wp2
      go_ret
      exact ⟨by rw [← HZ.out]; rfl, rfl⟩
    | some y =>
      have hvy := hv y hu
      subst hvy
      rw [hu] at hl
      have hy := HG.out z v hu
      have hry : Hid (Root up v r) := by
        cases hrz.out with
        | here k => rw [hu] at k; cases k
        | step k k' => rw [hu] at k; injection k with k; subst k; exact k'
      clear hv hu
      simp only [Option.isSome_some] at hl
      obtain ⟨hy0, hy1⟩ := hy
      go_wp2
      go_round
      case rel => exact ⟨v, hy0, rfl, hry⟩
      case measure => simp [intOf]; omega
theorem gjoin_same (base p : Nat) (up : Int → Option Int) (x y a : Int) (w : World) (h : GroupsAt w base p up) (hx : 0 ≤ x) (hy : 0 ≤ y) (hra : Root up x a) (hrb : Root up y a) :
    Calls Try.prog 11 #[.pointer (some ⟨p, 0, none⟩), .int .i64 x, .int .i64 y] w fun e w' => e = .returned (.bool false) ∧ w = w' := by
  have h1 := gfind base p up x a w h hx hra
  have h2 := gfind base p up y a w h hy hrb
  have H1 := Lib.hid h1; have H2 := Lib.hid h2
  clear h1 h2 hra hrb h
  have he : (a == a) = true := by simp
  go_enter Try.func11, Try.ntmps11
  go_wp2_with fail
  refine H1.out.mono ?_; rintro e w' ⟨rfl, rfl⟩
  go_wp2_with fail
  refine H2.out.mono ?_; rintro e w' ⟨rfl, rfl⟩
  go_wp2
  go_ret
  exact ⟨rfl, rfl⟩
set_option maxHeartbeats 1000000 in
set_option maxRecDepth 100000 in
theorem gjoin_lt (base p : Nat) (up : Int → Option Int) (x y a b : Int) (w : World) (h : GroupsAt w base p up) (hx : 0 ≤ x) (hy : 0 ≤ y) (hra : Root up x a) (hrb : Root up y b) (hlo : a < b) (hbase : base ≤ w.heap.size) :
    Calls Try.prog 11 #[.pointer (some ⟨p, 0, none⟩), .int .i64 x, .int .i64 y] w fun e w' => e = .returned (.bool true) ∧ GroupsAt w' base p (upTo up b a) ∧ Only (fun k => k = p ∨ (∃ c t, w.heap[k]? = some (.map c t) ∧ base ≤ k)) w w' := by
  have h1 := gfind base p up x a w h hx hra
  have h2 := gfind base p up y b w h hy hrb
  have H1 := Lib.hid h1; have H2 := Lib.hid h2
  clear h1 h2
  obtain ⟨hg, mo, hp, hno, hso⟩ := h
  have hc : w.cell? ⟨p, 0, none⟩ = some (.map mo) := by rw [cell_of_blk _ _ _ _ _ hp]; rfl
  have hf : w.frozen? ⟨p, 0, none⟩ = false := by simp [World.frozen?, hp]
  have hlt : p < w.heap.size := (Array.getElem?_eq_some_iff.1 hp).1
  have hab : (a == b) = false := by simp; omega
  have hgood : GoodUp (upTo up b a) := good_upTo hg (by have := (hra.le hg).2 hx; have := (hrb.le hg).2 hy; omega) (by omega)
  cases mo with
  | none =>
    obtain ⟨W1, hW1⟩ : ∃ W1, W1 = (w.setCell ⟨p, 0, none⟩ (.map (some w.heap.size))).alloc (.map #[] 0) := ⟨_, rfl⟩
    have hm1 : MapIs W1 w.heap.size .i64 [] := by
      have := MapIs.new (w.setCell ⟨p, 0, none⟩ (.map (some w.heap.size))) .i64
      have e : (w.setCell ⟨p, 0, none⟩ (.map (some w.heap.size))).heap.size = w.heap.size := by simp [World.setCell]
      rw [hW1]; rw [e] at this; exact this
    have ho1 : Only (fun k => k = p) w W1 := by rw [hW1]; exact (Only.setCell w ⟨p, 0, none⟩ (.map (some w.heap.size))).trans (Only.alloc (fun _ => False) _ _) (fun _ _ h => h.elim)
    obtain ⟨w2, hrun, hm2, ho2⟩ := run_updK (P := Try.prog) Try.underlying24 Try.underlying3 hm1 b (.int .i64 a)
    have hp1 : W1.heap[p]? = some (.cells #[.map (some w.heap.size)] 26 (0, 0)) := by
      rw [hW1]
      refine (Below.heap_alloc _ _ _ (by simp [World.setCell]; exact hlt)).trans ?_
      simp [World.setCell, Array.getElem?_modify, hp]
    have hp2 := (ho2.block p (by have := ho1.size; omega) (by omega)).trans hp1
    have hall : GroupsAt w2 base p (upTo up b a) ∧ Only (fun k => k = p ∨ (∃ c t, w.heap[k]? = some (.map c t) ∧ base ≤ k)) w w2 := by
      refine ⟨⟨hgood, _, hp2, (fun h => by cases h), fun m hm => ?_⟩, ?_⟩
      · injection hm with hm
        subst hm
        refine ⟨hbase, _, hm2, fun z => ?_⟩
        rw [getK_upd]
        unfold upTo
        by_cases hz : z = b
        · subst hz; simp
        · rw [if_neg (fun e => hz e.symm), if_neg hz, hno rfl z]; rfl
      · exact (ho1.mono (fun _ _ h => .inl h)).trans ho2 (fun k hk h => by omega)
    rw [hW1] at hrun
    have hq := fun W => run_eql_map_nil (P := Try.prog) W _ _ _ none Try.underlying24
    simp only [Option.isNone_none] at hq
    have HALL := Lib.hid hall
    clear hg hno hso hp hra hrb hgood hW1 hm1 ho1 hm2 ho2 hp1 hp2 hall
    have hmm := fun W => run_makeMap (P := Try.prog) 24 W
    go_enter Try.func11, Try.ntmps11
    go_wp2_with fail
    refine H1.out.mono ?_; rintro e w' ⟨rfl, rfl⟩
    go_wp2_with fail
    refine H2.out.mono ?_; rintro e w' ⟨rfl, rfl⟩
    go_wp2
    all_goals first
      | (exfalso; omega)
      | (go_ret; exact ⟨rfl, HALL.out.1, HALL.out.2⟩)
  | some m =>
    obtain ⟨hbm, al, hm, hget⟩ := hso m rfl
    obtain ⟨w2, hrun, hm2, ho2⟩ := run_updK (P := Try.prog) Try.underlying24 Try.underlying3 hm b (.int .i64 a)
    have hne : p ≠ m := by
      rintro rfl
      obtain ⟨es, c, hh, _⟩ := hm.blk
      rw [hp] at hh; cases hh
    have hp2 := (ho2.block p hlt hne).trans hp
    have hall : GroupsAt w2 base p (upTo up b a) ∧ Only (fun k => k = p ∨ (∃ c t, w.heap[k]? = some (.map c t) ∧ base ≤ k)) w w2 := by
      refine ⟨⟨hgood, _, hp2, (fun h => by cases h), fun m' hm' => ?_⟩, ?_⟩
      · injection hm' with hm'
        subst hm'
        refine ⟨hbm, _, hm2, fun z => ?_⟩
        rw [getK_upd]
        unfold upTo
        by_cases hz : z = b
        · subst hz; simp
        · rw [if_neg (fun e => hz e.symm), if_neg hz, hget z]
      · refine ho2.mono (fun k hk h => .inr ?_)
        subst h
        obtain ⟨es, c, hh, _⟩ := hm.blk
        exact ⟨es, c, hh, hbm⟩
    have hq := fun W => run_eql_map_nil (P := Try.prog) W _ _ _ (some m) Try.underlying24
    simp only [Option.isNone_some] at hq
    have HALL := Lib.hid hall
    clear hg hno hso hp hra hrb hgood hm2 ho2 hp2 hall hm hget
    go_enter Try.func11, Try.ntmps11
    go_wp2_with fail
    refine H1.out.mono ?_; rintro e w' ⟨rfl, rfl⟩
    go_wp2_with fail
    refine H2.out.mono ?_; rintro e w' ⟨rfl, rfl⟩
    go_wp2
    all_goals first
      | (exfalso; omega)
      | (go_ret; exact ⟨rfl, HALL.out.1, HALL.out.2⟩)
set_option maxHeartbeats 1000000 in
set_option maxRecDepth 100000 in
theorem gjoin_gt (base p : Nat) (up : Int → Option Int) (x y a b : Int) (w : World) (h : GroupsAt w base p up) (hx : 0 ≤ x) (hy : 0 ≤ y) (hra : Root up x a) (hrb : Root up y b) (hlo : b < a) (hbase : base ≤ w.heap.size) :
    Calls Try.prog 11 #[.pointer (some ⟨p, 0, none⟩), .int .i64 x, .int .i64 y] w fun e w' => e = .returned (.bool true) ∧ GroupsAt w' base p (upTo up a b) ∧ Only (fun k => k = p ∨ (∃ c t, w.heap[k]? = some (.map c t) ∧ base ≤ k)) w w' := by
  have h1 := gfind base p up x a w h hx hra
  have h2 := gfind base p up y b w h hy hrb
  have H1 := Lib.hid h1; have H2 := Lib.hid h2
  clear h1 h2
  obtain ⟨hg, mo, hp, hno, hso⟩ := h
  have hc : w.cell? ⟨p, 0, none⟩ = some (.map mo) := by rw [cell_of_blk _ _ _ _ _ hp]; rfl
  have hf : w.frozen? ⟨p, 0, none⟩ = false := by simp [World.frozen?, hp]
  have hlt : p < w.heap.size := (Array.getElem?_eq_some_iff.1 hp).1
  have hab : (a == b) = false := by simp; omega
  have hgood : GoodUp (upTo up a b) := good_upTo hg (by have := (hra.le hg).2 hx; have := (hrb.le hg).2 hy; omega) (by omega)
  cases mo with
  | none =>
    obtain ⟨W1, hW1⟩ : ∃ W1, W1 = (w.setCell ⟨p, 0, none⟩ (.map (some w.heap.size))).alloc (.map #[] 0) := ⟨_, rfl⟩
    have hm1 : MapIs W1 w.heap.size .i64 [] := by
      have := MapIs.new (w.setCell ⟨p, 0, none⟩ (.map (some w.heap.size))) .i64
      have e : (w.setCell ⟨p, 0, none⟩ (.map (some w.heap.size))).heap.size = w.heap.size := by simp [World.setCell]
      rw [hW1]; rw [e] at this; exact this
    have ho1 : Only (fun k => k = p) w W1 := by rw [hW1]; exact (Only.setCell w ⟨p, 0, none⟩ (.map (some w.heap.size))).trans (Only.alloc (fun _ => False) _ _) (fun _ _ h => h.elim)
    obtain ⟨w2, hrun, hm2, ho2⟩ := run_updK (P := Try.prog) Try.underlying24 Try.underlying3 hm1 a (.int .i64 b)
    have hp1 : W1.heap[p]? = some (.cells #[.map (some w.heap.size)] 26 (0, 0)) := by
      rw [hW1]
      refine (Below.heap_alloc _ _ _ (by simp [World.setCell]; exact hlt)).trans ?_
      simp [World.setCell, Array.getElem?_modify, hp]
    have hp2 := (ho2.block p (by have := ho1.size; omega) (by omega)).trans hp1
    have hall : GroupsAt w2 base p (upTo up a b) ∧ Only (fun k => k = p ∨ (∃ c t, w.heap[k]? = some (.map c t) ∧ base ≤ k)) w w2 := by
      refine ⟨⟨hgood, _, hp2, (fun h => by cases h), fun m hm => ?_⟩, ?_⟩
      · injection hm with hm
        subst hm
        refine ⟨hbase, _, hm2, fun z => ?_⟩
        rw [getK_upd]
        unfold upTo
        by_cases hz : z = a
        · subst hz; simp
        · rw [if_neg (fun e => hz e.symm), if_neg hz, hno rfl z]; rfl
      · exact (ho1.mono (fun _ _ h => .inl h)).trans ho2 (fun k hk h => by omega)
    rw [hW1] at hrun
    have hq := fun W => run_eql_map_nil (P := Try.prog) W _ _ _ none Try.underlying24
    simp only [Option.isNone_none] at hq
    have HALL := Lib.hid hall
    clear hg hno hso hp hra hrb hgood hW1 hm1 ho1 hm2 ho2 hp1 hp2 hall
    have hmm := fun W => run_makeMap (P := Try.prog) 24 W
    go_enter Try.func11, Try.ntmps11
    go_wp2_with fail
    refine H1.out.mono ?_; rintro e w' ⟨rfl, rfl⟩
    go_wp2_with fail
    refine H2.out.mono ?_; rintro e w' ⟨rfl, rfl⟩
    go_wp2
    all_goals first
      | (exfalso; omega)
      | (go_ret; exact ⟨rfl, HALL.out.1, HALL.out.2⟩)
  | some m =>
    obtain ⟨hbm, al, hm, hget⟩ := hso m rfl
    obtain ⟨w2, hrun, hm2, ho2⟩ := run_updK (P := Try.prog) Try.underlying24 Try.underlying3 hm a (.int .i64 b)
    have hne : p ≠ m := by
      rintro rfl
      obtain ⟨es, c, hh, _⟩ := hm.blk
      rw [hp] at hh; cases hh
    have hp2 := (ho2.block p hlt hne).trans hp
    have hall : GroupsAt w2 base p (upTo up a b) ∧ Only (fun k => k = p ∨ (∃ c t, w.heap[k]? = some (.map c t) ∧ base ≤ k)) w w2 := by
      refine ⟨⟨hgood, _, hp2, (fun h => by cases h), fun m' hm' => ?_⟩, ?_⟩
      · injection hm' with hm'
        subst hm'
        refine ⟨hbm, _, hm2, fun z => ?_⟩
        rw [getK_upd]
        unfold upTo
        by_cases hz : z = a
        · subst hz; simp
        · rw [if_neg (fun e => hz e.symm), if_neg hz, hget z]
      · refine ho2.mono (fun k hk h => .inr ?_)
        subst h
        obtain ⟨es, c, hh, _⟩ := hm.blk
        exact ⟨es, c, hh, hbm⟩
    have hq := fun W => run_eql_map_nil (P := Try.prog) W _ _ _ (some m) Try.underlying24
    simp only [Option.isNone_some] at hq
    have HALL := Lib.hid hall
    clear hg hno hso hp hra hrb hgood hm2 ho2 hp2 hall hm hget
    go_enter Try.func11, Try.ntmps11
    go_wp2_with fail
    refine H1.out.mono ?_; rintro e w' ⟨rfl, rfl⟩
    go_wp2_with fail
    refine H2.out.mono ?_; rintro e w' ⟨rfl, rfl⟩
    go_wp2
    all_goals first
      | (exfalso; omega)
      | (go_ret; exact ⟨rfl, HALL.out.1, HALL.out.2⟩)
end Go.Proofs.Yteojcdpmlhlfaaa
