/- dom.Tree.All as an iterator: a tree's places, each ahead of those below it, whatever the loop's body does in blocks of its own. Conditions: few places. -/
import Derived.Test.YtnkbbjeepdjamaaDAllP
import Derived.Test.YtnkbbjeepdjamaaAllIt
import Derived.Test.YtnkbbjeepdjamaaM6
namespace Go.Proofs.Ytnkbbjeepdjamaa
open Go.RowKit Go.Shelf
attribute [local go_sem] Oper.semAt_some
theorem yield_wide {m m' : Nat} {P : Program} {l : Nat} {args : Array Value} {W : World} {R : Ending → World → Prop} (h : YieldAt Fence.wide m P l args W R) : YieldAt Fence.wide m' P l args W R := by
  obtain ⟨fn, tmps, assign, body, hy, hR⟩ := h
  exact ⟨fn, tmps, assign, body, hy, hR.1, fun c cs _ => hR.2 c cs (room_wide _)⟩
/-- What a pass leaves: so many places further on; only blocks of the body's own, and new ones, have changed. -/
def TPost (J : Nat → (Nat → Prop) → World → Prop) (Jx : World → Prop) (k : Nat) (S : Nat → Prop) (W : World) (e : Ending) (W' : World) : Prop :=
  (e = .returned (.bool true) ∧ ∃ S', J k S' W' ∧ Only S W W' ∧ ∀ g, S' g → S g ∨ W.heap.size ≤ g) ∨ (e = .returned (.bool false) ∧ Jx W')
set_option maxRecDepth 100000 in
set_option maxHeartbeats 8000000 in
theorem twalk_in {g : Nat → List Nat} {tb n qu qb qd l : Nat} {ts : List Value} {up deep : List Int} {p0 : List Nat} (hdt : LT.DTree g n up deep) (hn : n ≤ 1000) (J : Nat → (Nat → Prop) → World → Prop) (Jx : World → Prop)
    (hRd : ∀ k S W, J k S W → TR W tb n qu qb qd ts up deep (belows up n n)) (hSt : ∀ k S A B, J k S A → Only (fun _ => False) A B → J k S B) (hlt : ∀ k S W, J k S W → ∀ g, S g → g < W.heap.size)
    (hY : ∀ (m k : Nat) (S : Nat → Prop) (W : World) (x : Nat), p0[k]? = some x → J k S W → YieldAt Fence.wide m Try.prog l #[.int .i64 (x : Int)] W (TPost J Jx (k + 1) S W)) :
    ∀ (f m v d k0 : Nat) (S : Nat → Prop) (W : World), Way g 0 v → deep[v]? = some (d : Int) → n ≤ d + f → (∀ (i x : Nat), (preT up n f v)[i]? = some x → p0[k0 + i]? = some x) → J k0 S W →
      CallsIn Fence.wide m Try.prog 62 #[treeV qu qb qd n, .int .i64 (v : Int), .func (.yield l) #[] #[]] W (TPost J Jx (k0 + (preT up n f v).length) S W)
  | 0, m, v, d, k0, S, W, hv, hd, hnf, hseg, hJ => by have := hdt.deep_lt hv hd; omega
  | f + 1, m, v, d, k0, S, W, hv, hd, hnf, hseg, hJ => by
    have IH := Lib.hid (twalk_in hdt hn J Jx hRd hSt hlt hY f)
    have hvn := hdt.lt v hv
    obtain ⟨X, hX⟩ : ∃ X, W.alloc (.cells #[.slice (some ⟨qu, 0, none⟩) n n, .slice (some ⟨qb, 0, none⟩) n n, .slice (some ⟨qd, 0, none⟩) n n] 33) = X := ⟨_, rfl⟩
    obtain ⟨hx, hbx, hz⟩ := boxed hX rfl
    have hJ1 : J k0 S X := hSt _ _ _ _ hJ (hX ▸ Only.alloc _ _ _)
    have hnS : ∀ g, S g → g < W.heap.size := hlt _ _ _ hJ
    obtain ⟨fn, tmps, assign, body, hy, hR⟩ := hY (m - 1) k0 S X v (by have := hseg 0 v (by simp [preT]); simpa using this) hJ1
    have HP := Lib.hid (And.intro hRd (And.intro hSt (And.intro hlt (And.intro hseg (And.intro hnS (And.intro hx hbx))))))
    have HV := Lib.hid (And.intro hv (And.intro hd hnf))
    have HDT := Lib.hid hdt
    obtain ⟨b3, hb3⟩ : ∃ k, W.heap.size = k := ⟨_, rfl⟩
    have v0 : 0 ≤ (v : Int) := by omega
    have v1 : (v : Int) < (n : Int) := by omega
    clear hRd hSt hlt hY hseg hJ hJ1 hnS hx hbx hz hdt hv hd hnf
    unfold treeV
    refine callsIn_of_wp Try.func62 rfl trivial ?_ rfl
    simp only [Try.ntmps62, List.size_toArray, List.length_cons, List.length_nil, Nat.reduceAdd, Nat.reduceSub, Array.replicate_succ, Array.replicate_zero, List.push_toArray, List.append_toArray, List.nil_append, List.cons_append]
    gi_wp2_with fail
    refine ⟨fun h => by simp [Fence.wide] at h, hR.mono ?_⟩
    clear hy hX
    rintro e W2 (⟨rfl, S2, hJ2, ho2, hn2⟩ | ⟨rfl, hJx⟩)
    · have hb32 : W2.heap[b3]? = some (.cells #[.slice (some ⟨qu, 0, none⟩) n n, .slice (some ⟨qb, 0, none⟩) n n, .slice (some ⟨qd, 0, none⟩) n n] 33 (0, 0)) := by
        rw [← hb3]
        exact (ho2.block _ (lt_blk HP.out.2.2.2.2.2.1) (fun e => by have := HP.out.2.2.2.2.1 _ e; omega)).trans HP.out.2.2.2.2.2.1
      have hn3 : ¬ S2 b3 := fun e => by
        rcases hn2 _ e with e | e
        · have := HP.out.2.2.2.2.1 _ e; omega
        · have := lt_blk HP.out.2.2.2.2.2.1; omega
      have htr := HP.out.1 _ _ _ hJ2
      obtain ⟨rv, l1, hrv, hl1, hrow⟩ := htr.mat.get (i := v) (by rw [belows_len]; exact hvn)
      rw [belows_get up hvn] at hl1
      obtain rfl := Option.some.inj hl1
      have hc := htr.mat.cell v
      rw [hrv] at hc
      obtain ⟨A, c, rfl, _, _, _⟩ := rowAt_slice hrow
      have hll := belowOf_len up n v
      rw [List.length_map] at hrv hrow hc
      have x0 := cell_of_blk _ _ _ _ _ hb32 0
      have x1 := cell_of_blk _ _ _ _ _ hb32 1
      have x2 := cell_of_blk _ _ _ _ _ hb32 2
      simp at x0 x1 x2
      obtain ⟨l2, hl2⟩ : ∃ l2, belowOf up n v = l2 := ⟨_, rfl⟩
      have H2 := Lib.hid (And.intro hJ2 (And.intro ho2 (And.intro hn2 (And.intro hb32 (And.intro hn3 hl2)))))
      rw [hl2] at hrv hrow hc hll
      have HRV := Lib.hid hrv

      clear hJ2 ho2 hn2 hb32 hn3 hl2 htr hrow hrv
      gi_wp2_with fail
      clear hc x0 x1 x2
      gi_loopw [19] (fun i wr => ∃ j : Nat, i = .int .i64 (j : Int) ∧ Hid (j ≤ l2.length ∧ ∃ U, J (k0 + 1 + ((l2.take j).flatMap (preT up n f)).length) U wr ∧ Only (fun g => S2 g ∨ W2.heap.size ≤ g) W2 wr ∧ ∀ g, U g → S2 g ∨ W2.heap.size ≤ g)) (fun i _ => l2.length - (intOf i).toNat)
      case atStart => exact ⟨0, rfl, Lib.hid ⟨Nat.zero_le _, S2, by simpa using H2.out.1, Only.refl _ _, fun g hg => .inl hg⟩⟩
      case round =>
        obtain ⟨wq, rfl⟩ : ∃ x : World, x = wr := ⟨_, rfl⟩
        obtain ⟨j, rfl, HI⟩ := hrel
        obtain ⟨hj0, U, hJw, hon, hUn⟩ := HI.out
        clear HI
        by_cases hj : j < l2.length
        · obtain ⟨x, hx⟩ : ∃ x, l2[j]? = some x := ⟨_, List.getElem?_eq_getElem hj⟩
          have hxm : x ∈ belowOf up n v := by rw [H2.out.2.2.2.2.2]; exact List.mem_of_getElem? hx
          obtain ⟨k1, k2, k3, k4⟩ := HDT.out.kid HV.out.2.1 hxm
          have hrow : RowAt wq tb 3 (.slice A l2.length c) (l2.map iv) := (HP.out.1 _ _ _ hJw).mat.row v _ l2 HRV.out (by rw [belows_get up hvn, H2.out.2.2.2.2.2])
          obtain ⟨g0, o0, rfl⟩ : ∃ g o, A = some ⟨g, o, none⟩ := by
            rcases hrow with ⟨h1, h2⟩ | ⟨g, o, cap, cur, h1, _⟩
            · have : l2 = [] := by simpa using h2
              rw [this] at hj; simp at hj
            · injection h1 with h1; exact ⟨g, o, h1⟩
          have hc := hrow.cell j (iv x) (by rw [List.getElem?_map, hx]; rfl)
          unfold iv at hc
          have hb3q := (hon.block b3 (lt_blk H2.out.2.2.2.1) (fun e => by
            rcases e with e | e
            · exact H2.out.2.2.2.2.1 e
            · have := lt_blk H2.out.2.2.2.1; omega)).trans H2.out.2.2.2.1
          have x0 := cell_of_blk _ _ _ _ _ hb3q 0
          have x1 := cell_of_blk _ _ _ _ _ hb3q 1
          have x2 := cell_of_blk _ _ _ _ _ hb3q 2
          simp at x0 x1 x2
          have pp1 : ((j : Int) < (l2.length : Int)) = True := eq_true (by omega)
          have j0 : 0 ≤ (j : Int) := by omega
          have j1 : (j : Int) < (l2.length : Int) := by omega
          have htk : ((l2.take (j + 1)).flatMap (preT up n f)) = (l2.take j).flatMap (preT up n f) ++ preT up n f x := by
            rw [take_snoc' l2 j x hx, List.flatMap_append]; simp
          have hall : preT up n (f + 1) v = v :: ((l2.take (j + 1)).flatMap (preT up n f) ++ (l2.drop (j + 1)).flatMap (preT up n f)) := by
            rw [← List.flatMap_append, List.take_append_drop, ← H2.out.2.2.2.2.2]; rfl
          have hsg : ∀ (i y : Nat), (preT up n f x)[i]? = some y → p0[k0 + 1 + ((l2.take j).flatMap (preT up n f)).length + i]? = some y := fun i y hy => by
            have hlt := (List.getElem?_eq_some_iff.1 hy).1
            have := HP.out.2.2.2.1 (1 + ((l2.take j).flatMap (preT up n f)).length + i) y (by
              rw [hall, htk, Nat.add_assoc, Nat.add_comm 1, List.getElem?_cons_succ, List.getElem?_append_left (by simp; omega), List.getElem?_append_right (by omega), Nat.add_sub_cancel_left]
              exact hy)
            rw [← this]
            congr 1
            omega
          have HX := Lib.hid (fun m => IH.out m x (d + 1) _ U wq k2 k3 (by have := HV.out.2.2; omega) hsg hJw)
          have HJ := Lib.hid (And.intro hJw (And.intro hon (And.intro hUn htk)))
          clear hx hxm k1 k2 k3 k4 hrow hb3q hJw hon hUn htk hsg hall
          unfold treeV at HX
          gi_wp2_with fail
          refine ⟨trivial, fun h => by simp [Fence.wide] at h, (HX.out _).mono ?_⟩
          rintro e W4 (⟨rfl, U4, hJ4, ho4, hn4⟩ | ⟨rfl, hJx⟩)
          · have HE := Lib.hid (show ∃ U, J (k0 + 1 + ((l2.take (j + 1)).flatMap (preT up n f)).length) U W4 ∧ Only (fun g => S2 g ∨ W2.heap.size ≤ g) W2 W4 ∧ ∀ g, U g → S2 g ∨ W2.heap.size ≤ g from
              ⟨U4, by rw [HJ.out.2.2.2, List.length_append, ← Nat.add_assoc]; exact hJ4, HJ.out.2.1.trans ho4 (fun g _ e => HJ.out.2.2.1 g e), fun g hg => by
                rcases hn4 g hg with e | e
                · exact HJ.out.2.2.1 g e
                · have := HJ.out.2.1.size; exact .inr (by omega)⟩)
            clear hJ4 ho4 hn4 hc x0 x1 x2
            gi_wp2_with fail
            go_roundw
            case rel => exact ⟨j + 1, by go_num, Lib.hid ⟨by omega, HE.out⟩⟩
            case measure => simp [intOf]; omega
          · gi_wp2_with fail
            refine bodyPost_ret (v := .bool false) (by simp [results, Try.results62, go_sem]) rfl ?_
            exact .inr ⟨rfl, hJx⟩
        · obtain rfl : j = l2.length := by omega
          have pp1 : ((l2.length : Int) < (l2.length : Int)) = False := eq_false (by omega)
          rw [List.take_length] at hJw
          have hlen : k0 + (preT up n (f + 1) v).length = k0 + 1 + (l2.flatMap (preT up n f)).length := by
            have : preT up n (f + 1) v = v :: l2.flatMap (preT up n f) := by rw [← H2.out.2.2.2.2.2]; rfl
            rw [this, List.length_cons]; omega
          have HE := Lib.hid (show TPost J Jx (k0 + (preT up n (f + 1) v).length) S W (.returned (.bool true)) wq from .inl ⟨rfl, U, by rw [hlen]; exact hJw, by
              have hs2 := H2.out.2.1.size
              have hs1 := HP.out.2.2.2.2.2.2.size
              have h12 : Only S W W2 := (Only.of_below HP.out.2.2.2.2.2.2).mono (fun k hk e => absurd e (by omega)) |>.trans H2.out.2.1 (fun k _ e => e)
              exact h12.trans hon (fun k hk e => by
                rcases e with e | e
                · exact (H2.out.2.2.1 k e).resolve_right (by omega)
                · omega), fun g hg => by
              have hs2 := H2.out.2.1.size
              have hs1 := HP.out.2.2.2.2.2.2.size
              rcases hUn g hg with e | e
              · exact (H2.out.2.2.1 g e).imp id (fun e => by omega)
              · exact .inr (by omega)⟩)
          clear hJw hon hUn
          gi_wp2_with fail
          refine bodyPost_ret (v := .bool true) (by simp [results, Try.results62, go_sem]) rfl ?_
          exact HE.out
    · gi_wp2_with fail
      refine bodyPost_ret (v := .bool false) (by simp [results, Try.results62, go_sem]) rfl ?_
      exact .inr ⟨rfl, hJx⟩
end Go.Proofs.Ytnkbbjeepdjamaa
