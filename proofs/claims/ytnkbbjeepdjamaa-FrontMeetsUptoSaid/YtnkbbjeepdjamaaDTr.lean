/- dom.tree: depths; those below each. Conditions: the plain law's. -/
import Derived.Test.YtnkbbjeepdjamaaM5
import Derived.Test.YtnkbbjeepdjamaaGApp
import Derived.Test.YtnkbbjeepdjamaaM3
import Derived.Deep.Cut
import Derived.Deep.CutRange
import Derived.Deep.RegionWith
import Derived.LoopTactic
import Derived.Outline
import Derived.StillTailTactics
namespace Go.Proofs.Ytnkbbjeepdjamaa
open Go.RowKit
theorem bcell {W w1 : World} (hb : Below W.heap.size W w1) : (∀ b o, b < W.heap.size → w1.cell? ⟨b, o, none⟩ = W.cell? ⟨b, o, none⟩) ∧ (∀ b o, b < W.heap.size → w1.frozen? ⟨b, o, none⟩ = W.frozen? ⟨b, o, none⟩) :=
  ⟨fun b o h => hb.cell (p := ⟨b, o, none⟩) h, fun b o h => hb.frozen (p := ⟨b, o, none⟩) h⟩
/-- What stands behind the tree's literal. -/
def LitOk (X : World) (n qu : Nat) (t : Value) (X' : World) : Prop := ∃ T qb qd, t = .pointer (some ⟨T, 0, none⟩) ∧ Hid (X'.heap[T]? = some (.cells #[.slice (some ⟨qu, 0, none⟩) n n, .slice (some ⟨qb, 0, none⟩) n n, .slice (some ⟨qd, 0, none⟩) n n] 33 (0, 0)) ∧ X'.heap[qb]? = some (nilRows n) ∧ Ints X' qd (List.replicate n (-1)) ∧ X.heap.size ≤ qb ∧ X.heap.size ≤ qd ∧ X.heap.size ≤ T ∧ Below X.heap.size X X')
/-- A world that is older in all that lay. -/
structure Old (X W : World) : Prop where
  below : Below X.heap.size X W
theorem Old.refl (X : World) : Old X X := ⟨Below.refl _ _⟩
theorem Old.alloc {X W : World} (h : Old X W) (o : Obj) : Old X (W.alloc o) := ⟨h.below.alloc h.below.size _⟩
theorem Old.drew {X W : World} (h : Old X W) : Old X W.drew := ⟨h.below.drew⟩
theorem alloc_oldD {w : World} {k : Nat} {o o' : Obj} (h : w.heap[k]? = some o') : (w.alloc o).heap[k]? = some o' := (Below.heap_alloc w o k (lt_blk h)).trans h
theorem at0 (X : World) (a : Obj) : (X.alloc a).heap[X.heap.size]? = some a := heap_alloc_new' X a
theorem at1 (X : World) (a b : Obj) : ((X.alloc a).alloc b).heap[X.heap.size + 1]? = some b := by
  have := heap_alloc_new' (X.alloc a) b
  rwa [World.size_alloc] at this
theorem at2 (X : World) (a b c : Obj) : (((X.alloc a).alloc b).alloc c).heap[X.heap.size + 1 + 1]? = some c := by
  have := heap_alloc_new' ((X.alloc a).alloc b) c
  rwa [World.size_alloc, World.size_alloc] at this
abbrev litT (n qu qb q : Nat) : Obj := .cells #[.slice (some ⟨qu, 0, none⟩) n n, .slice (some ⟨qb, 0, none⟩) n n, .slice (some ⟨q, 0, none⟩) n n] 33
abbrev set3 (W : World) (T n qu qb q : Nat) : World := ((W.setCell ⟨T, 0, none⟩ (.slice (some ⟨qu, 0, none⟩) n n)).setCell ⟨T, 1, none⟩ (.slice (some ⟨qb, 0, none⟩) n n)).setCell ⟨T, 2, none⟩ (.slice (some ⟨q, 0, none⟩) n n)
theorem drewH {W : World} {k : Nat} {o : Option Obj} (h : W.heap[k]? = o) : W.drew.heap[k]? = o := h
theorem set3_at {W : World} {T n qu qb q : Nat} {a b c : Value} (h : W.heap[T]? = some (.cells #[a, b, c] 33 (0, 0))) : (set3 W T n qu qb q).heap[T]? = some (litT n qu qb q) := by
  simp [set3, litT, World.setCell, Array.getElem?_modify, h]
theorem set3_only (W : World) (T n qu qb q : Nat) : Only (fun k => k = T) W (set3 W T n qu qb q) :=
  ((Only.setCell W ⟨T, 0, none⟩ _).trans (Only.setCell _ ⟨T, 1, none⟩ _) (fun _ _ e => e)).trans (Only.setCell _ ⟨T, 2, none⟩ _) (fun _ _ e => e)
section
variable {X pre w1 : World} {n qu qb q T : Nat} (h2 : Ints w1 q (List.replicate n (-1))) (h3 : pre.heap.size ≤ q) (h4 : Below pre.heap.size pre w1) (ho : Old X pre)
include h2 h3 h4 ho
omit h2 h4 in
theorem lit_of {W : World} (hT : W.heap[T]? = some (litT n qu qb q)) (hb : W.heap[qb]? = some (nilRows n)) (hq : Ints W q (List.replicate n (-1))) (b1 : X.heap.size ≤ qb) (b3 : X.heap.size ≤ T) (hbel : Below X.heap.size X W) : LitOk X n qu (.pointer (some ⟨T, 0, none⟩)) W :=
  ⟨T, qb, q, rfl, Lib.hid ⟨hT, hb, hq, b1, Nat.le_trans ho.below.size h3, b3, hbel⟩⟩
theorem lit1 (hT : pre.heap[T]? = some (.cells #[.slice none 0 0, .slice none 0 0, .slice none 0 0] 33 (0, 0))) (hM : pre.heap[qb]? = some (nilRows n)) (hne : qb ≠ T) (b1 : X.heap.size ≤ qb) (b3 : X.heap.size ≤ T) : LitOk X n qu (.pointer (some ⟨T, 0, none⟩)) (set3 w1 T n qu qb q) := by
  have hs := set3_only w1 T n qu qb q
  have l1 := lt_blk hT
  have hTw := (h4.block T l1).trans hT
  exact lit_of h3 ho (set3_at hTw) ((hs.block qb (by have := lt_blk hM; have := h4.size; omega) hne).trans ((h4.block qb (lt_blk hM)).trans hM)) (h2.only hs (by omega)) b1 b3 ((below_two ho.below h4).trans (hs.below (Nat.le_trans ho.below.size h4.size) (fun k hk e => by omega)))
theorem lit2 (hT : pre.heap[T]? = some (.cells #[.slice none 0 0, .slice none 0 0, .slice none 0 0] 33 (0, 0))) (b3 : X.heap.size ≤ T) : LitOk X n qu (.pointer (some ⟨T, 0, none⟩)) ((set3 w1 T n qu w1.heap.size q).alloc (nilRows n)) := by
  have l1 := lt_blk hT
  have hz := h4.size
  have hz0 := ho.below.size
  have hs := set3_only w1 T n qu w1.heap.size q
  have hTw := (h4.block T l1).trans hT
  have h5 := heap_alloc_new' (set3 w1 T n qu w1.heap.size q) (nilRows n)
  have hsz : (set3 w1 T n qu w1.heap.size q).heap.size = w1.heap.size := by simp
  rw [hsz] at h5
  exact lit_of h3 ho (alloc_oldD (set3_at hTw)) h5 ((h2.only hs (by omega)).later ((Below.refl _ _).alloc (Nat.le_refl _) _)) (by omega) b3
    (((below_two ho.below h4).trans (hs.below (by omega) (fun k hk e => by omega))).alloc (by simp; omega) _)
theorem lit3 (hM : pre.heap[qb]? = some (nilRows n)) (b1 : X.heap.size ≤ qb) : LitOk X n qu (.pointer (some ⟨w1.heap.size, 0, none⟩)) (w1.alloc (litT n qu qb q)) := by
  have hz := h4.size
  have hz0 := ho.below.size
  exact lit_of h3 ho (heap_alloc_new' w1 _) (alloc_oldD ((h4.block qb (lt_blk hM)).trans hM)) (h2.later ((Below.refl _ _).alloc (Nat.le_refl _) _)) b1 (by omega) ((below_two ho.below h4).alloc (by omega) _)
theorem lit4 : LitOk X n qu (.pointer (some ⟨w1.heap.size + 1, 0, none⟩)) ((w1.alloc (nilRows n)).alloc (litT n qu w1.heap.size q)) := by
  have hz := h4.size
  have hz0 := ho.below.size
  have h5 := heap_alloc_new' (w1.alloc (nilRows n)) (litT n qu w1.heap.size q)
  simp only [World.size_alloc] at h5
  exact lit_of h3 ho h5 (alloc_oldD (heap_alloc_new' w1 _)) ((h2.later ((Below.refl _ _).alloc (Nat.le_refl _) _)).later ((Below.refl _ _).alloc (Nat.le_refl _) _)) (by omega) (by omega) (((below_two ho.below h4).alloc (by omega) _).alloc (by simp; omega) _)
theorem lit5 : LitOk X n qu (.pointer (some ⟨w1.heap.size, 0, none⟩)) ((w1.alloc (litT n qu (w1.heap.size + 1) q)).alloc (nilRows n)) := by
  have hz := h4.size
  have hz0 := ho.below.size
  have h5 := heap_alloc_new' (w1.alloc (litT n qu (w1.heap.size + 1) q)) (nilRows n)
  simp only [World.size_alloc] at h5
  exact lit_of h3 ho (alloc_oldD (heap_alloc_new' w1 _)) h5 ((h2.later ((Below.refl _ _).alloc (Nat.le_refl _) _)).later ((Below.refl _ _).alloc (Nat.le_refl _) _)) (by omega) (by omega) (((below_two ho.below h4).alloc (by omega) _).alloc (by simp; omega) _)
end
set_option maxRecDepth 100000 in
set_option maxHeartbeats 8000000 in
theorem tree_calls {n : Nat} (h1 : 1 ≤ n) (hn : n ≤ 1048575) {base qu : Nat} {A : Option Addr} {c : Nat} {up : List Int} {s : List Nat} (w : World) (hu : Ints w qu up) (hr : RowAt w base 3 (.slice A s.length c) (s.map iv)) (hnd : s.Nodup) (hs : ∀ v ∈ s, v < n)
    (hul : up.length = n) (hup : ∀ j v, 0 < j → s[j]? = some v → ∃ d u : Nat, d < j ∧ s[d]? = some u ∧ up[v]? = some (u : Int)) (hun : ∀ (v : Nat) (x : Int), up[v]? = some x → x = -1 ∨ ∃ u : Nat, u < n ∧ x = (u : Int)) :
    Calls Try.prog 54 #[.slice (some ⟨qu, 0, none⟩) n n, .slice A s.length c] w fun e w' => ∃ qb qd vs deep f, e = .returned (treeV qu qb qd n) ∧ TR w' w.heap.size n qu qb qd vs up deep (belows up n n) ∧ LT.Deeps n s up s.length f deep ∧ w.heap.size ≤ qd ∧ Below w.heap.size w w' := by
  have hmk := mk_rows n (by omega)
  have HW := Lib.hid (And.intro hu hr)
  clear hu hr
  go_enter Try.func54, Try.ntmps54
  go_upto_region 1 with (fail)
  generalize hX : World.alloc w _ = X
  obtain ⟨hx, hbx, hz⟩ := boxed hX rfl
  have HX := Lib.hid (And.intro hx (And.intro hbx hz))
  clear hX hx hbx hz
  go_cut [5] from 10 (fun t X' => LitOk X n qu t X')
  case first =>
    clear HX HW hup hun hs hnd hul
    go_region_with (go_at_call 50; refine (repeat_calls n h1 hn _ 0 1 (-1) _ (by go_simp)).mono ?_; rintro e w1 ⟨q, rfl, h2, h3, h4⟩; obtain ⟨hc, hf⟩ := bcell h4; have hz := h4.size; simp at hz; have hz1 : X.heap.size < w1.heap.size := (by omega); (try have hz2 : X.heap.size + 1 < w1.heap.size := (by omega)); (try have hz3 : X.heap.size + 1 + 1 < w1.heap.size := (by omega)))
    all_goals (try go_wp2_with fail)
    all_goals go_meet
    all_goals
    all_goals first
      | (with_reducible refine lit4 h2 h3 h4 ?_; first | with_reducible exact ((((Old.refl X).alloc _).alloc _).alloc _).drew | with_reducible exact (((Old.refl X).alloc _).alloc _).drew | with_reducible exact ((Old.refl X).alloc _).drew)
      | (with_reducible refine lit5 h2 h3 h4 ?_; first | with_reducible exact ((((Old.refl X).alloc _).alloc _).alloc _).drew | with_reducible exact (((Old.refl X).alloc _).alloc _).drew | with_reducible exact ((Old.refl X).alloc _).drew)
      | ((with_reducible refine lit3 h2 h3 h4 ?_ ?_ ?_); (first | with_reducible exact ((((Old.refl X).alloc _).alloc _).alloc _).drew | with_reducible exact (((Old.refl X).alloc _).alloc _).drew | with_reducible exact ((Old.refl X).alloc _).drew); ((with_reducible apply drewH); first | with_reducible exact at0 _ _ | with_reducible exact at1 _ _ _ | with_reducible exact at2 _ _ _ _ | with_reducible exact alloc_oldD (at0 _ _) | with_reducible exact alloc_oldD (at1 _ _ _) | with_reducible exact alloc_oldD (alloc_oldD (at0 _ _))); omega)
      | ((with_reducible refine lit2 h2 h3 h4 ?_ ?_ ?_); (first | with_reducible exact ((((Old.refl X).alloc _).alloc _).alloc _).drew | with_reducible exact (((Old.refl X).alloc _).alloc _).drew | with_reducible exact ((Old.refl X).alloc _).drew); ((with_reducible apply drewH); first | with_reducible exact at0 _ _ | with_reducible exact at1 _ _ _ | with_reducible exact at2 _ _ _ _ | with_reducible exact alloc_oldD (at0 _ _) | with_reducible exact alloc_oldD (at1 _ _ _) | with_reducible exact alloc_oldD (alloc_oldD (at0 _ _))); omega)
      | ((with_reducible refine lit1 h2 h3 h4 ?_ ?_ ?_ ?_ ?_ ?_); (first | with_reducible exact ((((Old.refl X).alloc _).alloc _).alloc _).drew | with_reducible exact (((Old.refl X).alloc _).alloc _).drew | with_reducible exact ((Old.refl X).alloc _).drew); ((with_reducible apply drewH); first | with_reducible exact at0 _ _ | with_reducible exact at1 _ _ _ | with_reducible exact at2 _ _ _ _ | with_reducible exact alloc_oldD (at0 _ _) | with_reducible exact alloc_oldD (at1 _ _ _) | with_reducible exact alloc_oldD (alloc_oldD (at0 _ _))); ((with_reducible apply drewH); first | with_reducible exact at0 _ _ | with_reducible exact at1 _ _ _ | with_reducible exact at2 _ _ _ _ | with_reducible exact alloc_oldD (at0 _ _) | with_reducible exact alloc_oldD (at1 _ _ _) | with_reducible exact alloc_oldD (alloc_oldD (at0 _ _))); omega; omega; omega)
      | trace_state
  case rest =>
    obtain ⟨T, qb, qd, rfl, HL⟩ := hcut
    have hrw := (HW.out.2.only (Only.of_below HX.out.2.1) (fun g hg e => by have := (HW.out.2.lt hg).1; omega)).only (Only.of_below HL.out.2.2.2.2.2.2) (fun g hg e => by have := (HW.out.2.lt hg).1; have := HX.out.2.2; omega)
    have huw := (HW.out.1.later HX.out.2.1).later HL.out.2.2.2.2.2.2
    have hRw := (HL.out.2.2.2.2.2.2.block w.heap.size (by have := HX.out.2.2; omega)).trans HX.out.1
    have hlen : s.length ≤ n := LT.room hnd hs
    have hrq : ∀ g, (Value.slice A s.length c).ownBlock = some g → g ≠ qd := fun g hg e => by have := (HW.out.2.lt hg).1; have := HX.out.2.2; have := HL.out.2.2.2.2.1; omega
    have hdT : qd ≠ T := HL.out.2.2.1.ne HL.out.1 (by decide)
    have hdq : qu ≠ qd := fun e => by have := lt_blk HW.out.1; have := HX.out.2.2; have := HL.out.2.2.2.2.1; omega
    have HR0 := Lib.hid (And.intro hrw (And.intro huw (And.intro hRw (And.intro hlen (And.intro hrq (And.intro hdT hdq))))))
    have HS := Lib.hid (And.intro hs (And.intro hup (And.intro hun (And.intro hul hnd))))
    clear hrw huw hRw hlen hrq hdT hdq hs hup hun hul hnd hmk
    go_wp2_with fail
    go_loopw [21] (fun i wr => ∃ k : Nat, i = .int .i64 (k : Int) ∧ Hid (k ≤ s.length ∧ ∃ deep f, Ints wr qd deep ∧ LT.Deeps n s up k f deep ∧ Only (fun g => g = qd) wc wr)) (fun i _ => s.length - (intOf i).toNat)
    case atStart => exact ⟨0, rfl, Lib.hid ⟨Nat.zero_le _, _, _, HL.out.2.2.1, LT.Deeps.start n s up, Only.refl _ _⟩⟩
    case round =>
      obtain ⟨k, rfl, HI⟩ := hrel
      obtain ⟨hk0, deep, f, hdp, hde, hon⟩ := HI.out
      clear HI
      have hsn := HR0.out.2.2.2.1
      have hTr := (hon.block T (lt_blk HL.out.1) (fun e => HR0.out.2.2.2.2.2.1 e.symm)).trans HL.out.1
      by_cases hk : k < s.length
      · obtain ⟨v, hv⟩ : ∃ v, s[k]? = some v := ⟨_, List.getElem?_eq_getElem hk⟩
        have hrr := HR0.out.1.only hon (fun g hg e => HR0.out.2.2.2.2.1 g hg e)
        obtain ⟨g0, o0, rfl⟩ : ∃ g o, A = some ⟨g, o, none⟩ := by
          rcases hrr with ⟨h1, h2⟩ | ⟨g, o, cap, cur, h1, _⟩
          · have : s = [] := by simpa using h2
            rw [this] at hk; simp at hk
          · injection h1 with h1; exact ⟨g, o, h1⟩
        have hc := hrr.cell k (iv v) (by rw [List.getElem?_map, hv]; rfl)
        unfold iv at hc
        have hvn : v < n := HS.out.1 v (List.mem_of_getElem? hv)
        have t2 := cell_of_blk _ _ _ _ _ hTr 2
        simp at t2
        have pp1 : ((k : Int) < (s.length : Int)) = True := eq_true (by omega)
        have j0 : 0 ≤ (k : Int) := by omega
        have j1 : (k : Int) < (s.length : Int) := by omega
        have i3 : 0 ≤ (v : Int) := by omega
        have i4 : (v : Int) < (n : Int) := by omega
        obtain ⟨y, hy⟩ : ∃ y, deep[v]? = some y := ⟨_, List.getElem?_eq_getElem (by rw [hde.len]; exact hvn)⟩
        by_cases hk00 : k = 0
        · subst hk00
          have cy := hdp.cell hy
          have fy := hdp.frozen v
          have hst := hdp.set v 0
          have hos := hon.trans (Only.setCell wr ⟨qd, v, none⟩ (.int .i64 0)) (fun g _ e => e)
          have HE := Lib.hid (And.intro hst (And.intro hos (hde.first hv hvn)))
          clear hdp hde hon hTr hrr hst hos hv hy
          simp only [Int.cast_ofNat_Int, Nat.add_zero] at *
          go_wp2_with fail
          go_roundw
          case rel => exact ⟨1, by first | rfl | go_num, Lib.hid ⟨by omega, _, _, HE.out.1, HE.out.2.2, HE.out.2.1⟩⟩
          case measure => simp [intOf]; omega
        · obtain ⟨d, u, hd, hsd, hupv⟩ := HS.out.2.1 k v (by omega) hv
          have hun' : u < n := HS.out.1 u (List.mem_of_getElem? hsd)
          have huu := (HR0.out.2.1.only hon (fun e => HR0.out.2.2.2.2.2.2 e))
          have hu1 := huu.cell hupv
          have hd1 := hdp.cell (hde.at_ d u hd hsd)
          have hfd := hde.le d hd (by omega)
          have hwr : IntKind.i64.wrap ((f d : Int) + 1) = ((f d + 1 : Nat) : Int) := by rw [IntKind.wrap_i64]; omega
          have i5 : 0 ≤ (u : Int) := by omega
          have i6 : (u : Int) < (n : Int) := by omega
          have kz : ((k : Int) == 0) = false := beq_eq_false_iff_ne.mpr (by omega)
          have hst := (hdp.only (Only.drewN (fun _ => False) wr 1) id).set v ((f d + 1 : Nat) : Int)
          have cy := (hdp.only (Only.drewN (fun _ => False) wr 1) id).cell hy
          have fy := (hdp.only (Only.drewN (fun _ => False) wr 1) id).frozen v
          have hos := (hon.trans (Only.drewN (fun _ => False) wr 1) (fun _ _ e => e.elim)).trans (Only.setCell _ ⟨qd, v, none⟩ (.int .i64 ((f d + 1 : Nat) : Int))) (fun g _ e => e)
          have HE := Lib.hid (And.intro hst (And.intro hos (hde.next HS.out.2.2.2.2 (by omega) hv hvn hd hsd hupv)))
          clear hdp hde hon hTr hrr hst hos hv hy hupv huu
          go_wp2_with fail
          go_still_tail 13, (by kernel_rfl)
          change wpList _ _ _ _ _ (wr.drewN 1)
          go_wp2_with fail
          go_roundw
          case rel => exact ⟨k + 1, by go_num, Lib.hid ⟨by omega, _, _, HE.out.1, HE.out.2.2, HE.out.2.1⟩⟩
          case measure => simp [intOf]; omega
      · obtain rfl : k = s.length := by omega
        have pp1 : ((s.length : Int) < (s.length : Int)) = False := eq_false (by omega)
        have hup0 := HR0.out.2.1.only hon (fun e => HR0.out.2.2.2.2.2.2 e)
        have hbq : wr.heap[qb]? = some (nilRows n) := (hon.block qb (lt_blk HL.out.2.1) (fun e => HL.out.2.2.1.ne HL.out.2.1 (by decide) e.symm)).trans HL.out.2.1
        have hRr := (hon.block w.heap.size (lt_blk HR0.out.2.2.1) (fun e => by have := HX.out.2.2; have := HL.out.2.2.2.2.1; omega)).trans HR0.out.2.2.1
        have hbl : Below X.heap.size X wr := HL.out.2.2.2.2.2.2.trans (hon.below HL.out.2.2.2.2.2.2.size (fun g hg e => by have := HL.out.2.2.2.2.1; omega))
        have hm0 : Mat wr X.heap.size qb (List.replicate n (.slice none 0 0)) (belows up n 0) := by rw [belows_zero]; exact Mat.new hbq HL.out.2.2.2.1
        have HM0 := Lib.hid (And.intro hm0 (And.intro hTr (And.intro hdp (And.intro hup0 (And.intro hRr (And.intro hbl (And.intro hde (And.intro HL.out.2.2.2.2.1 (show qd ≠ qb from HL.out.2.2.1.ne HL.out.2.1 (by decide))))))))))
        clear hdp hon hTr hup0 hbq hRr hbl hm0 hde HL
        go_wp2_with fail
        obtain ⟨wo, rfl⟩ : ∃ wo : World, wo = wr := ⟨_, rfl⟩
        go_loopw [48] (fun i wr => ∃ k : Nat, i = .int .i64 (k : Int) ∧ Hid (k ≤ n ∧ ∃ vs, Mat wr X.heap.size qb vs (belows up n k) ∧ Only (MatB qb (List.replicate n (.slice none 0 0))) wo wr ∧ ∀ g, MatB qb vs g → g = qb ∨ wo.heap.size ≤ g)) (fun i _ => n - (intOf i).toNat)
        case atStart => exact ⟨0, rfl, Lib.hid ⟨Nat.zero_le _, _, HM0.out.1, Only.refl _ _, fun g hg => .inl (matB_new hg)⟩⟩
        case round =>
          obtain ⟨k, rfl, HI⟩ := hrel
          obtain ⟨hk0', vs, hmt, hon, hnew⟩ := HI.out
          clear HI
          have hTr := (hon.block T (lt_blk HM0.out.2.1) (fun e => by have e := matB_new e; have := blk_ne HM0.out.1.blk HM0.out.2.1 (by decide); exact this e.symm)).trans HM0.out.2.1
          have hup0 := HM0.out.2.2.2.1.only hon (fun e => by have e := matB_new e; exact HM0.out.2.2.2.1.ne HM0.out.1.blk (by decide) e)
          by_cases hk : k < n
          · obtain ⟨y, hy⟩ : ∃ y, up[k]? = some y := ⟨_, List.getElem?_eq_getElem (by rw [HS.out.2.2.2.1]; exact hk)⟩
            have cy := hup0.cell hy
            have pp1 : ((k : Int) < (n : Int)) = True := eq_true (by omega)
            have j0 : 0 ≤ (k : Int) := by omega
            have j1 : (k : Int) < (n : Int) := by omega
            rcases HS.out.2.2.1 k y hy with rfl | ⟨u, hun', rfl⟩
            · have HE := Lib.hid (show belows up n (k + 1) = belows up n k from belows_none (fun u e => by rw [hy] at e; have := Option.some.inj e; omega))
              have HQ := Lib.hid (And.intro hmt (And.intro hon hnew))
              clear hmt hon hnew hTr hup0 hy
              go_wp2_with fail
              go_roundw
              case rel => exact ⟨k + 1, by go_num, Lib.hid ⟨by omega, vs, by rw [HE.out]; exact HQ.out.1, HQ.out.2.1, HQ.out.2.2⟩⟩
              case measure => simp [intOf]; omega
            · obtain ⟨v, l, hv, hl, hrw⟩ := hmt.get (i := u) (by rw [belows_len]; exact hun')
              have hle : l = belowOf up k u := by rw [belows_get up hun'] at hl; exact (Option.some.inj hl).symm
              have hll : l.length ≤ k := by rw [hle]; exact belowOf_len up k u
              have x0' := cell_of_blk _ _ _ _ _ hTr 0
              have x1' := cell_of_blk _ _ _ _ _ hTr 1
              have hc := hmt.cell u
              rw [hv] at hc
              have hfz := hmt.frozen u
              have hvT : v.ownBlock ≠ some T := hrw.ne_blk hTr (by decide)
              have hvq : v.ownBlock ≠ some qb := hrw.ne_blk hmt.blk (by decide)
              simp at x0' x1'
              have hS2 : JS (wr.drewN 1) T qb u v (.slice (some ⟨qu, 0, none⟩) n n) (.slice (some ⟨qb, 0, none⟩) n n) (wr.drewN 1) := ⟨x0', x1', hc, hfz, Lib.hid ⟨Only.refl _ _, lt_blk hTr, lt_blk hmt.blk, hvT, hvq⟩⟩
              have hXw : X.heap.size ≤ wr.heap.size := Nat.le_trans hmt.ge (Nat.le_of_lt (lt_blk hmt.blk))
              obtain ⟨v', w5, hr, k1, k2, k3⟩ := row_append (w := (wr.drewN 1).alloc (.cells #[.int .i64 (k : Int)] 3)) (base := X.heap.size) (v := v) (l := l) (hrw.only ((Only.drewN (fun _ => False) wr 1).trans (Only.alloc (fun _ => False) _ _) (fun _ _ e => e)) (fun _ _ e => e)) ⟨wr.heap.size, 0, none⟩ k (by
                have := cell_of_blk ((wr.drewN 1).alloc (.cells #[.int .i64 (k : Int)] 3)) wr.heap.size _ _ _ (heap_alloc_new' (wr.drewN 1) _) 0
                exact this) (by simp; omega) (by omega)
              obtain ⟨A1, m1, c1, rfl⟩ : ∃ A m c, v' = .slice A m c := (rowAt_slice k1).elim fun A h => h.elim fun c h => ⟨A, _, c, h.1⟩
              have hset := hmt.set (w1 := w5) hv hl (((Only.drewN _ wr 1).trans (Only.alloc _ _ _) (fun _ _ e => e)).trans k2 (fun _ _ e => e)) k1 (k3.imp id (fun ⟨g, h1, h2⟩ => ⟨g, h1, by simp at h2; omega⟩))
              rw [hle, ← belows_some hy] at hset
              have HR := Lib.hid hr
              have HK := Lib.hid (And.intro k1 (And.intro k2 k3))
              have HSET := Lib.hid hset
              have HQ := Lib.hid (And.intro hmt (And.intro hon hnew))
              obtain ⟨A0, c0', rfl, _, _, _⟩ := rowAt_slice hrw
              simp only [List.length_map] at *
              have i5 : 0 ≤ (u : Int) := by omega
              have i6 : (u : Int) < (n : Int) := by omega
              clear hr k1 k2 k3 hset hmt hon hnew hTr hup0 hy hv hl hrw hle hvT hvq hXw
              go_wp2_with fail
              refine wp_region_Z (S := (JS (wr.drewN 1) T qb u (.slice A0 l.length c0') (.slice (some ⟨qu, 0, none⟩) n n) (.slice (some ⟨qb, 0, none⟩) n n))) (z := 12) (by kernel_rfl) (by exact hS2) (fun hHeld => ?_)
              refine wpAnyZ_take (i := 0) (oi := { dst := some 55, op := Go.Op.fieldAddr 33 (Go.Operand.tmp 5) 1, type := 0, pos := "dom.go:108", after := #[], guard := none }) (v := ?_) rfl (by kernel_rfl) (by kernel_rfl) (by kernel_rfl) (by kernel_rfl) (fun _ _ _ h => h) (Or.inl ⟨by rfl, ?_⟩) (by assumption) ?_
              rotate_left 1
              · intro w hSw; (obtain ⟨d0, d1, d2, d3, _⟩ := hSw); go_simp; try with_reducible rfl
              try simp only [Act.put, List.setIfInBounds_toArray, List.set_cons_zero, List.set_cons_succ]
              refine wpAnyZ_take (i := 1) (oi := { dst := some 56, op := Go.Op.load 26 (Go.Operand.tmp 55), type := 26, pos := "dom.go:108", after := #[{ on := 0, ground := Go.Ground.data }], guard := none }) (v := ?_) rfl (by kernel_rfl) (by kernel_rfl) (by kernel_rfl) (by kernel_rfl) (fun _ _ _ h => h) (Or.inl ⟨by rfl, ?_⟩) (by assumption) ?_
              rotate_left 1
              · intro w hSw; (obtain ⟨d0, d1, d2, d3, _⟩ := hSw); go_simp; try with_reducible rfl
              try simp only [Act.put, List.setIfInBounds_toArray, List.set_cons_zero, List.set_cons_succ]
              refine wpAnyZ_take (i := 2) (oi := { dst := some 57, op := Go.Op.move (Go.Operand.tmp 9), type := 3, pos := "dom.go:108", after := #[], guard := none }) (v := ?_) rfl (by kernel_rfl) (by kernel_rfl) (by kernel_rfl) (by kernel_rfl) (fun _ _ _ h => h) (Or.inl ⟨by rfl, ?_⟩) (by assumption) ?_
              rotate_left 1
              · intro w hSw; (obtain ⟨d0, d1, d2, d3, _⟩ := hSw); go_simp; try with_reducible rfl
              try simp only [Act.put, List.setIfInBounds_toArray, List.set_cons_zero, List.set_cons_succ]
              refine wpAnyZ_take (i := 3) (oi := { dst := some 58, op := Go.Op.fieldAddr 33 (Go.Operand.tmp 5) 1, type := 0, pos := "dom.go:108", after := #[], guard := none }) (v := ?_) rfl (by kernel_rfl) (by kernel_rfl) (by kernel_rfl) (by kernel_rfl) (fun _ _ _ h => h) (Or.inl ⟨by rfl, ?_⟩) (by assumption) ?_
              rotate_left 1
              · intro w hSw; (obtain ⟨d0, d1, d2, d3, _⟩ := hSw); go_simp; try with_reducible rfl
              try simp only [Act.put, List.setIfInBounds_toArray, List.set_cons_zero, List.set_cons_succ]
              refine wpAnyZ_take (i := 4) (oi := { dst := some 59, op := Go.Op.load 26 (Go.Operand.tmp 58), type := 26, pos := "dom.go:108", after := #[{ on := 3, ground := Go.Ground.data }], guard := none }) (v := ?_) rfl (by kernel_rfl) (by kernel_rfl) (by kernel_rfl) (by kernel_rfl) (fun _ _ _ h => h) (Or.inl ⟨by rfl, ?_⟩) (by assumption) ?_
              rotate_left 1
              · intro w hSw; (obtain ⟨d0, d1, d2, d3, _⟩ := hSw); go_simp; try with_reducible rfl
              try simp only [Act.put, List.setIfInBounds_toArray, List.set_cons_zero, List.set_cons_succ]
              refine wpAnyZ_take (i := 5) (oi := { dst := some 60, op := Go.Op.move (Go.Operand.tmp 9), type := 3, pos := "dom.go:108", after := #[], guard := none }) (v := ?_) rfl (by kernel_rfl) (by kernel_rfl) (by kernel_rfl) (by kernel_rfl) (fun _ _ _ h => h) (Or.inl ⟨by rfl, ?_⟩) (by assumption) ?_
              rotate_left 1
              · intro w hSw; (obtain ⟨d0, d1, d2, d3, _⟩ := hSw); go_simp; try with_reducible rfl
              try simp only [Act.put, List.setIfInBounds_toArray, List.set_cons_zero, List.set_cons_succ]
              refine wpAnyZ_take (i := 6) (oi := { dst := some 61, op := Go.Op.indexAddr 26 (Go.Operand.tmp 59) (Go.Operand.tmp 60), type := 0, pos := "dom.go:108", after := #[{ on := 4, ground := Go.Ground.data }, { on := 5, ground := Go.Ground.data }], guard := none }) (v := ?_) rfl (by kernel_rfl) (by kernel_rfl) (by kernel_rfl) (by kernel_rfl) (fun _ _ _ h => h) (Or.inl ⟨by rfl, ?_⟩) (by assumption) ?_
              rotate_left 1
              · intro w hSw; (obtain ⟨d0, d1, d2, d3, _⟩ := hSw); go_simp; try with_reducible rfl
              try simp only [Act.put, List.setIfInBounds_toArray, List.set_cons_zero, List.set_cons_succ]
              refine wpAnyZ_take (i := 7) (oi := { dst := some 62, op := Go.Op.load 31 (Go.Operand.tmp 61), type := 31, pos := "dom.go:108", after := #[{ on := 6, ground := Go.Ground.data }], guard := none }) (v := ?_) rfl (by kernel_rfl) (by kernel_rfl) (by kernel_rfl) (by kernel_rfl) (fun _ _ _ h => h) (Or.inl ⟨by rfl, ?_⟩) (by assumption) ?_
              rotate_left 1
              · intro w hSw; (obtain ⟨d0, d1, d2, d3, _⟩ := hSw); go_simp; try with_reducible rfl
              try simp only [Act.put, List.setIfInBounds_toArray, List.set_cons_zero, List.set_cons_succ]
              refine wpAnyZ_take (i := 8) (oi := { dst := some 63, op := Go.Op.move (Go.Operand.tmp 8), type := 3, pos := "dom.go:108", after := #[], guard := none }) (v := ?_) rfl (by kernel_rfl) (by kernel_rfl) (by kernel_rfl) (by kernel_rfl) (fun _ _ _ h => h) (Or.inl ⟨by rfl, ?_⟩) (by assumption) ?_
              rotate_left 1
              · intro w hSw; (obtain ⟨d0, d1, d2, d3, _⟩ := hSw); go_simp; try with_reducible rfl
              try simp only [Act.put, List.setIfInBounds_toArray, List.set_cons_zero, List.set_cons_succ]
              refine wpAnyZ_step (i := 9) (o := { dst := some 64, op := Go.Op.buildSlice 31 1 #[(0, Go.Operand.tmp 63)], type := 31, pos := "dom.go:108", after := #[{ on := 8, ground := Go.Ground.data }], guard := none }) rfl (by kernel_rfl) (fun K hK => ?_)
              go_simp
              refine hK.out _ _ (fun _ => hHeld.alloc _) (fun hHeld1 => ?_)
              replace hHeld1 := hHeld1 (by decide)
              clear hK K hHeld
              try simp only [Act.put, List.setIfInBounds_toArray, List.set_cons_zero, List.set_cons_succ]
              refine wpAnyZ_step (i := 10) (o := { dst := some 65, op := Go.Op.call { callee := Go.Callee.builtin Go.Builtin.append, args := #[Go.Operand.tmp 62, Go.Operand.tmp 64], argTypes := #[31, 31] }, type := 31, pos := "dom.go:108", after := #[{ on := 7, ground := Go.Ground.data }, { on := 9, ground := Go.Ground.data }], guard := none }) rfl (by kernel_rfl) (fun K hK => ?_)
              refine step_append_run rfl _ _ _ _ rfl _ _ rfl rfl HR.out ?_
              refine hK.out _ _ (fun _ => hHeld1.step HK.out.2.1) (fun hHeld2 => ?_)
              replace hHeld2 := hHeld2 (by decide)
              clear hK K hHeld1
              try simp only [Act.put, List.setIfInBounds_toArray, List.set_cons_zero, List.set_cons_succ]
              refine wpAnyZ_take (i := 11) (oi := { dst := some 66, op := Go.Op.indexAddr 26 (Go.Operand.tmp 56) (Go.Operand.tmp 57), type := 0, pos := "dom.go:108", after := #[{ on := 1, ground := Go.Ground.data }, { on := 2, ground := Go.Ground.data }, { on := 0, ground := Go.Ground.phase }, { on := 1, ground := Go.Ground.phase }, { on := 2, ground := Go.Ground.phase }, { on := 3, ground := Go.Ground.phase }, { on := 4, ground := Go.Ground.phase }, { on := 5, ground := Go.Ground.phase }, { on := 6, ground := Go.Ground.phase }, { on := 7, ground := Go.Ground.phase }, { on := 8, ground := Go.Ground.phase }, { on := 9, ground := Go.Ground.phase }, { on := 10, ground := Go.Ground.phase }], guard := none }) (v := ?_) rfl (by kernel_rfl) (by kernel_rfl) (by kernel_rfl) (by kernel_rfl) (fun _ _ _ h => h) (Or.inl ⟨by rfl, ?_⟩) (by assumption) ?_
              rotate_left 1
              · intro w hSw; (obtain ⟨d0, d1, d2, d3, _⟩ := hSw); go_simp; try with_reducible rfl
              try simp only [Act.put, List.setIfInBounds_toArray, List.set_cons_zero, List.set_cons_succ]
              refine wpAnyZ_step (i := 12) (o := { dst := none, op := Go.Op.store 31 (Go.Operand.tmp 66) (Go.Operand.tmp 65), type := 0, pos := "dom.go:108", after := #[{ on := 11, ground := Go.Ground.data }, { on := 10, ground := Go.Ground.data }, { on := 10, ground := Go.Ground.chain }, { on := 0, ground := Go.Ground.phase }, { on := 1, ground := Go.Ground.phase }, { on := 2, ground := Go.Ground.phase }, { on := 3, ground := Go.Ground.phase }, { on := 4, ground := Go.Ground.phase }, { on := 5, ground := Go.Ground.phase }, { on := 6, ground := Go.Ground.phase }, { on := 7, ground := Go.Ground.phase }, { on := 8, ground := Go.Ground.phase }, { on := 9, ground := Go.Ground.phase }, { on := 10, ground := Go.Ground.phase }], guard := none }) rfl (by kernel_rfl) (fun K hK => ?_)
              have e2 := hHeld2.2.2.1
              have e3 := hHeld2.2.2.2.1
              go_simp
              refine hK.out _ _ (fun h => absurd rfl h) (fun _ => ?_)
              clear hK K e2 e3
              try simp only [Act.put, List.setIfInBounds_toArray, List.set_cons_zero, List.set_cons_succ]
              refine wpAnyZ_done (by kernel_rfl) ?_ _
              clear hHeld2 HR HK hS2 x0' x1' hc hfz
              generalize World.setCell w5 _ _ = W5 at *
              go_wp2_with fail
              go_roundw
              case rel =>
                refine ⟨k + 1, by go_num, Lib.hid ⟨by omega, _, HSET.out.1, HQ.out.2.1.trans HSET.out.2.1 (fun x hx e => ?_), fun g hg => ?_⟩⟩
                · rcases HQ.out.2.2 x e with e | e
                  · exact .inl e
                  · omega
                · rcases HSET.out.2.2 g hg with e | e
                  · exact HQ.out.2.2 g e
                  · exact .inr (Nat.le_trans HQ.out.2.1.size e)
              case measure => simp [intOf]; omega
          · obtain rfl : k = n := by omega
            have pp1 : ((k : Int) < (k : Int)) = False := eq_false (by omega)
            have hRw := (hon.block w.heap.size (lt_blk HM0.out.2.2.2.2.1) (fun e => by have e := matB_new e; have := HM0.out.1.ge; have := HX.out.2.2; omega)).trans HM0.out.2.2.2.2.1
            have hdw := HM0.out.2.2.1.only hon (fun e => HM0.out.2.2.2.2.2.2.2.2 (matB_new e))
            have t0 := cell_of_blk _ _ _ _ _ hTr 0
            have t1 := cell_of_blk _ _ _ _ _ hTr 1
            have t2 := cell_of_blk _ _ _ _ _ hTr 2
            have r0 := cell_of_blk _ _ _ _ _ hRw 0
            have r1 := cell_of_blk _ _ _ _ _ hRw 1
            have r2 := cell_of_blk _ _ _ _ _ hRw 2
            have fr : ∀ i, wr.frozen? ⟨w.heap.size, i, none⟩ = false := fun i => by simp [World.frozen?, hRw]
            have f0 := fr 0
            have f1 := fr 1
            have f2 := fr 2
            simp at t0 t1 t2 r0 r1 r2
            have hs3 := set3_at (n := k) (qu := qu) (qb := qb) (q := qd) hRw
            have ho3 := set3_only wr w.heap.size k qu qb qd
            have s0 := cell_of_blk _ _ _ _ _ hs3 0
            have s1 := cell_of_blk _ _ _ _ _ hs3 1
            have s2 := cell_of_blk _ _ _ _ _ hs3 2
            simp at s0 s1 s2
            have hbw : Below w.heap.size w wr := (HX.out.2.1.trans (HM0.out.2.2.2.2.2.1.mono (by have := HX.out.2.2; omega))).trans (hon.below (by have := lt_blk HM0.out.2.2.2.2.1; omega) (fun g hg e => by have e := matB_new e; have := HM0.out.1.ge; have := HX.out.2.2; omega))
            have hfin : TR (set3 wr w.heap.size k qu qb qd) w.heap.size k qu qb qd vs up deep (belows up k k) ∧ Below w.heap.size w (set3 wr w.heap.size k qu qb qd) := by
              have hXz := HX.out.2.2
              refine ⟨⟨hup0.only ho3 (fun e => hup0.ne hRw (by decide) e), hdw.only ho3 (fun e => hdw.ne hRw (by decide) e), (hmt.lower (by omega)).only ho3 (fun g hg e => ?_), HR0.out.2.2.2.2.2.2, belows_len _ _ _⟩, hbw.trans (ho3.below (by have := lt_blk hRw; omega) (fun g hg e => by omega))⟩
              have := (hmt.lt hg).2
              omega
            have HF := Lib.hid (And.intro hfin (And.intro HM0.out.2.2.2.2.2.2.1 (show w.heap.size ≤ qd by have := HM0.out.2.2.2.2.2.2.2.1; have := HX.out.2.2; omega)))
            clear hmt hon hnew hTr hup0 hRw hdw fr hs3 ho3 hbw hfin
            go_wp2_with fail
            exact bodyPost_ret (v := treeV qu qb qd k) (by simp [results, Try.results54, go_sem, s0, s1, s2, treeV]) rfl ⟨qb, qd, vs, deep, f, rfl, HF.out.1.1, HF.out.2.1, HF.out.2.2, HF.out.1.2⟩
end Go.Proofs.Ytnkbbjeepdjamaa
