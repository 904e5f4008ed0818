/- A range over dom.Tree.All: the statement out of its body's walk. Conditions: few places; the body keeps the tree. -/
import Derived.Test.YtnkbbjeepdjamaaDAllI
import Derived.Test.YtnkbbjeepdjamaaMarks
namespace Go.Proofs.Ytnkbbjeepdjamaa
open Go.RowKit Go.Shelf
attribute [local go_sem] Oper.semAt_some
theorem tall (qu qb qd n : Nat) (w : World) : Calls Try.prog 30 #[treeV qu qb qd n] w fun e w' => e = .returned (.func (.func 61) #[] #[.pointer (some ⟨w.heap.size, 0, none⟩)]) ∧ w' = w.alloc (.cells #[.slice (some ⟨qu, 0, none⟩) n n, .slice (some ⟨qb, 0, none⟩) n n, .slice (some ⟨qd, 0, none⟩) n n] 33) := by
  unfold treeV
  go_enter Try.func30, Try.ntmps30
  go_wp2
  go_ret
  exact ⟨rfl, rfl⟩
theorem tall_none (w : World) : Calls Try.prog 30 #[.agg #[.slice none 0 0, .slice none 0 0, .slice none 0 0]] w fun e w' => e = .returned (.func (.func 61) #[] #[.pointer (some ⟨w.heap.size, 0, none⟩)]) ∧ w' = w.alloc (.cells #[.slice none 0 0, .slice none 0 0, .slice none 0 0] 33) := by
  go_enter Try.func30, Try.ntmps30
  go_wp2
  go_ret
  exact ⟨rfl, rfl⟩
set_option maxRecDepth 100000 in
set_option maxHeartbeats 2000000 in
theorem tall_in {g : Nat → List Nat} {tb n qu qb qd l bT : Nat} {ts : List Value} {up deep : List Int} (hdt : LT.DTree g n up deep) (hn : n ≤ 1000) (hn0 : 0 < n) (J : Nat → (Nat → Prop) → World → Prop) (Jx : World → Prop)
    (hRd : ∀ k S W, J k S W → TR W tb n qu qb qd ts up deep (belows up n n)) (hSt : ∀ k S A B, J k S A → Only (fun _ => False) A B → J k S B) (hlt : ∀ k S W, J k S W → ∀ g, S g → g < W.heap.size)
    (hY : ∀ (m k : Nat) (S : Nat → Prop) (W : World) (x : Nat), (preT up n n 0)[k]? = some x → J k S W → YieldAt Fence.wide m Try.prog l #[.int .i64 (x : Int)] W (TPost J Jx (k + 1) S W))
    (m : Nat) (S : Nat → Prop) (W : World) (hJ : J 0 S W) (hT : W.heap[bT]? = some (.cells #[.slice (some ⟨qu, 0, none⟩) n n, .slice (some ⟨qb, 0, none⟩) n n, .slice (some ⟨qd, 0, none⟩) n n] 33 (0, 0))) :
    CallsIn Fence.wide m Try.prog 61 #[.func (.yield l) #[] #[], .pointer (some ⟨bT, 0, none⟩)] W fun e W' => (∃ v, e = .returned v) ∧ ((∃ S', J (preT up n n 0).length S' W') ∨ Jx W') := by
  have htw := twalk_in hdt hn J Jx hRd hSt hlt hY n (m - 1) 0 0 0 S W (.refl 0) (by simpa using hdt.zero.2) (by omega) (fun i x h => by rwa [Nat.zero_add]) hJ
  rw [Nat.zero_add] at htw
  unfold treeV at htw
  have HTW := Lib.hid htw
  have x0 := cell_of_blk _ _ _ _ _ hT 0
  have x1 := cell_of_blk _ _ _ _ _ hT 1
  have x2 := cell_of_blk _ _ _ _ _ hT 2
  simp at x0 x1 x2
  have pn : ((0 : Int) < (n : Int)) = True := eq_true (by omega)
  clear htw hRd hSt hlt hY hJ hT hdt
  refine callsIn_of_wp Try.func61 rfl trivial ?_ rfl
  simp only [Try.ntmps61, List.size_toArray, List.length_cons, List.length_nil, Nat.reduceAdd, Nat.reduceSub, Array.replicate_succ, Array.replicate_zero, List.push_toArray, List.append_toArray, List.nil_append, List.cons_append]
  gi_wp2_with fail
  refine ⟨trivial, fun h => by simp [Fence.wide] at h, HTW.out.mono ?_⟩
  rintro e W4 (⟨rfl, U4, hJ4, _, _⟩ | ⟨rfl, hJx⟩)
  · have HE := Lib.hid hJ4
    clear hJ4
    gi_wp2_with fail
    go_end0
    exact ⟨⟨_, rfl⟩, .inl ⟨U4, HE.out⟩⟩
  · gi_wp2_with fail
    go_end0
    exact ⟨⟨_, rfl⟩, .inr hJx⟩
/-- THE STATEMENT. -/
theorem wp_tree {gr : Nat → List Nat} {tb n qu qb qd bT : Nat} {ts : List Value} {up deep : List Int} (hdt : LT.DTree gr n up deep) (hn : n ≤ 1000) (hn0 : 0 < n)
    {g : Operand} {ps : Array Tmp} {assign body : Code} {Q : Exit → Act → World → Prop} {a : Act} {w : World}
    (hg : a.eval g = .func (.func 61) #[] #[.pointer (some ⟨bT, 0, none⟩)]) (hps : ps.size = 1)
    (hT : w.heap[bT]? = some (.cells #[.slice (some ⟨qu, 0, none⟩) n n, .slice (some ⟨qb, 0, none⟩) n n, .slice (some ⟨qd, 0, none⟩) n n] 33 (0, 0)))
    (I : Nat → (Nat → Prop) → World → Prop) (Ix : Code → World → Prop) (S0 : Nat → Prop)
    (hRd : ∀ k S W, I k S W → TR W tb n qu qb qd ts up deep (belows up n n)) (hlt : ∀ k S W, I k S W → ∀ g, S g → g < W.heap.size)
    (hI : ∀ k S A B, I k S A → Only (fun j => j = w.heap.size + 1) A B → I k S B) (hIx : ∀ c A B, Ix c A → Only (fun j => j = w.heap.size + 1) A B → Ix c B)
    (hS0 : ∀ g, S0 g → g < w.heap.size) (h0 : ∀ W, Only (fun _ => False) w W → I 0 S0 W)
    (Ax : Int → Act → Prop)
    (hassign : ∀ (y : Int) (W : World) (K : Act → World → Prop), (∀ a', Ax y a' → K a' W) → assign.wpIn (Fence.wide.inRound (w.heap.size + 1)) 4 Try.prog (Exit.then K (fun _ _ _ => False)) { tmps := (ps.zip #[.int .i64 y]).foldl (fun t (p, v) => t.setIfInBounds p v) a.tmps, defers := [] } W)
    (hbody : ∀ (k x : Nat) (a' : Act) (S : Nat → Prop) (W : World), (preT up n n 0)[k]? = some x → Ax (x : Int) a' → I k S W → ¬ S w.heap.size → ¬ S (w.heap.size + 1) → w.heap.size + 1 < W.heap.size →
      body.wpIn (Fence.wide.inRound (w.heap.size + 1)) 4 Try.prog (rfPost w.heap.size (fun W' => ∃ S', I (k + 1) S' W' ∧ Only S W W' ∧ ∀ g, S' g → S g ∨ W.heap.size ≤ g) Ix W) a' W)
    (hdone : ∀ S W, I (preT up n n 0).length S W → W.heap[w.heap.size]? = some (.deferred (some [])) → Q .normal { a with defers := mark w.heap.size :: a.defers } W)
    (hstop : ∀ c W, Ix c W → W.heap[w.heap.size]? = some (.deferred (some [])) → c.wpIn Fence.wide 6 Try.prog Q { a with defers := mark w.heap.size :: a.defers } W) :
    (Code.rangeFunc g ps assign body).wpIn Fence.wide 6 Try.prog Q a w := by
  refine wpIn_rf rfl (by omega) (gf := 61) (lb := #[.pointer (some ⟨bT, 0, none⟩)]) hg trivial (enters_of Try.func61 (by kernel_rfl) rfl) ?_
  intro fn W1 hfn hO hk hl
  have dk : ∀ {A B : World}, A.heap[w.heap.size]? = some (.deferred (some [])) → Only (fun j => j = w.heap.size + 1) A B → B.heap[w.heap.size]? = some (.deferred (some [])) := fun h ho => (ho.block _ (Array.getElem?_eq_some_iff.1 h).1 (by omega)).trans h
  refine (tall_in hdt hn hn0
    (fun k S' W => ∃ S, I k S W ∧ W.heap[w.heap.size]? = some (.deferred (some [])) ∧ W.heap[w.heap.size + 1]? = some (.loop (rfRec fn a.tmps ps assign body w.heap.size .ready none)) ∧ S' = (fun g => S g ∨ g = w.heap.size + 1) ∧ ¬ S w.heap.size ∧ ¬ S (w.heap.size + 1))
    (fun W => ∃ c, Ix c W ∧ W.heap[w.heap.size]? = some (.deferred (some [])) ∧ W.heap[w.heap.size + 1]? = some (.loop (rfRec fn a.tmps ps assign body w.heap.size .done (some c))))
    (fun k S W ⟨_, h, _⟩ => hRd _ _ _ h) ?_ ?_ ?_ 5 _ W1 ⟨S0, h0 W1 hO, hk, hl, rfl, fun e => by have := hS0 _ e; omega, fun e => by have := hS0 _ e; omega⟩ ((hO.block bT (Array.getElem?_eq_some_iff.1 hT).1 id).trans hT)).mono ?_
  · rintro k S A B ⟨S1, h1, h2, h3, h4⟩ ho
    exact ⟨S1, hI _ _ _ _ h1 (ho.mono (fun _ _ h => h.elim)), (ho.block _ (Array.getElem?_eq_some_iff.1 h2).1 id).trans h2, (ho.block _ (Array.getElem?_eq_some_iff.1 h3).1 id).trans h3, h4⟩
  · rintro k S W ⟨S1, h1, h2, h3, rfl, _⟩ g (hg | rfl)
    · exact hlt _ _ _ h1 g hg
    · exact (Array.getElem?_eq_some_iff.1 h3).1
  · rintro m k S W x hx ⟨S1, h1, h2, h3, rfl, h4, h5⟩
    refine yield_wide (m := 4) ?_
    refine (yield_rf hfn (by rw [hps]; rfl) h2 h3 (fun A => I k S1 A ∧ Only (fun j => j = w.heap.size + 1) W A)
      (fun B => ∃ S', I (k + 1) S' B ∧ Only (fun g => S1 g ∨ g = w.heap.size + 1) W B ∧ ∀ g, S' g → S1 g ∨ W.heap.size ≤ g) Ix
      (fun A B h ho => ⟨hI _ _ _ _ h.1 ho, h.2.trans ho (fun _ _ e => e)⟩)
      (fun A B ⟨S', k1, k2, k3⟩ ho => ⟨S', hI _ _ _ _ k1 ho, k2.trans ho (fun _ _ e => .inr e), k3⟩) hIx ⟨h1, Only.refl _ _⟩
      (fun a' _ => Ax (x : Int) a') (fun _ _ _ h _ => h) (fun K hK => hassign _ W K (fun a' h => hK a' W (Only.refl _ _) h)) ?_).mono ?_
    · rintro a' W' ⟨k1, k2⟩ k3 k4 ⟨r, k5⟩
      refine wpIn_mono (hbody k x a' S1 W' hx k3 k1 h4 h5 (Array.getElem?_eq_some_iff.1 k5).1) ?_
      intro e a3 W3 hp
      cases e with
      | normal =>
        obtain ⟨p1, p2, S', p3, p4, p5⟩ := hp
        exact ⟨p1, p2, S', p3, (k2.mono (fun _ _ e => .inr e)).trans p4 (fun _ _ e => .inl e), fun g hg => (p5 g hg).imp id (fun e => by have := k2.size; omega)⟩
      | ret => exact hp
      | exit id => exact hp
      | goto t => exact hp
      | panic ch => exact hp.elim
      | outgrown => exact hp.elim
    · rintro e W' (⟨rfl, ⟨S', k1, k2, k3⟩, k4, k5⟩ | ⟨rfl, c, k1, k2, k3⟩)
      · refine .inl ⟨rfl, _, ⟨S', k1, k4, k5, rfl, fun e => ?_, fun e => ?_⟩, k2, ?_⟩
        · rcases k3 _ e with e | e
          · exact h4 e
          · have := (Array.getElem?_eq_some_iff.1 h2).1; omega
        · rcases k3 _ e with e | e
          · exact h5 e
          · have := (Array.getElem?_eq_some_iff.1 h3).1; omega
        · rintro g (hg | rfl)
          · exact (k3 g hg).imp .inl id
          · exact .inl (.inr rfl)
      · exact .inr ⟨rfl, c, k1, k2, k3⟩
  · rintro e W2 ⟨hv, (⟨_, S', hi, hk', hl', _⟩ | ⟨c, hx, hk', hl'⟩)⟩
    · exact ⟨hv, .ready, none, by simp, hk', hl', fun W3 hO3 hk3 => hdone S' W3 (hI _ _ _ _ hi hO3) hk3⟩
    · exact ⟨hv, .done, some c, by simp, hk', hl', fun W3 hO3 hk3 => hstop c W3 (hIx _ _ _ hx hO3) hk3⟩
end Go.Proofs.Ytnkbbjeepdjamaa
