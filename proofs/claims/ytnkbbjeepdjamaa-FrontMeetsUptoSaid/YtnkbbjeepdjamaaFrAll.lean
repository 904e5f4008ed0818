/- front.All: the fronts of some places, of these too, again and again. Conditions: few places. -/
import Derived.Test.YtnkbbjeepdjamaaFrFA
import Derived.OwnWalkIn
import Derived.TacticsInMore
import Derived.LoopNIn
import Derived.LoopIn
namespace Go.Proofs.Ytnkbbjeepdjamaa
open Go.RowKit
attribute [local go_sem] Oper.semAt_some
theorem alloc_oldE {w : World} {k : Nat} {o o' : Obj} (h : w.heap[k]? = some o') : (w.alloc o).heap[k]? = some o' := (Below.heap_alloc w o k (lt_blk h)).trans h
theorem five {w X : World} {o0 o1 o2 o3 o4 : Obj} (h : ((((w.alloc o0).alloc o1).alloc o2).alloc o3).alloc o4 = X) :
    X.heap[w.heap.size]? = some o0 ∧ X.heap[w.heap.size + 1]? = some o1 ∧ X.heap[w.heap.size + 1 + 1]? = some o2 ∧ X.heap[w.heap.size + 1 + 1 + 1]? = some o3 ∧ X.heap[w.heap.size + 1 + 1 + 1 + 1]? = some o4 ∧ X.heap.size = w.heap.size + 5 ∧ Below w.heap.size w X := by
  subst h
  have n1 := heap_alloc_new' (w.alloc o0) o1
  have n2 := heap_alloc_new' ((w.alloc o0).alloc o1) o2
  have n3 := heap_alloc_new' (((w.alloc o0).alloc o1).alloc o2) o3
  have n4 := heap_alloc_new' ((((w.alloc o0).alloc o1).alloc o2).alloc o3) o4
  simp only [World.size_alloc] at n1 n2 n3 n4
  refine ⟨alloc_oldE (alloc_oldE (alloc_oldE (alloc_oldE (heap_alloc_new' w o0)))), alloc_oldE (alloc_oldE (alloc_oldE n1)), alloc_oldE (alloc_oldE n2), alloc_oldE n3, n4, by simp, ?_⟩
  exact (((((Below.refl _ _).alloc (Nat.le_refl _) _).alloc (by simp) _).alloc (by simp; omega) _).alloc (by simp; omega) _).alloc (by simp; omega) _
theorem cells_at {w W : World} {base : Nat} {A : Option Addr} {c : Nat} {xs : List Int} (h : IsSetI w base (.slice A xs.length c) xs) (hb : Below w.heap.size w W) : SI.CellsAt A xs W := by
  obtain ⟨A', c', e, h1, _⟩ := SI.isset_cellsAt (h.only (Only.of_below hb) (fun g hg e => by have := (isset_lt h hg).2; omega))
  injection e with e1 e2 e3
  subst e1
  exact h1
/-- What is told of the blocks that stay: the fronts' box, the result's cell. -/
def Fx0 (b2 r4 n : Nat) (A : Option Addr) (z : Nat) (o : Obj) : Prop := (z = b2 ∧ o = .cells #[.slice A n n] 54) ∨ (z = r4 ∧ o = .cells #[.slice none 0 0] 57)
/-- One more is told. -/
def FxP (Fx : Nat → Obj → Prop) (b : Nat) (x : Obj) (z : Nat) (o : Obj) : Prop := Fx z o ∨ (z = b ∧ o = x)
def ZP (Z : Nat → Prop) (b : Nat) (z : Nat) : Prop := Z z ∨ z = b
def Z0 (b2 b3 r4 : Nat) (z : Nat) : Prop := z = b2 ∨ z = b3 ∨ z = r4
/-- All that are given, as far as they were put in. -/
def J1 (w : World) (base p q : Nat) (Fx : Nat → Obj → Prop) (Z : Nat → Prop) (xs : List Int) (k : Nat) (W : World) : Prop := ∃ Q F, FA w base p q Fx Z [] Q F W ∧ (∀ y, y ∈ Q ↔ y ∈ xs.take k) ∧ Q.length ≤ k ∧ k ≤ xs.length
/-- Where one stands: the set, the queue, the queue's blocks. -/
structure AS where
  o : List Int
  q : List Int
  f : Nat → Prop
/-- Between two that are taken. -/
def J2 (w : World) (base p q : Nat) (Fx : Nat → Obj → Prop) (Z : Nat → Prop) (P : Nat → Nat → Prop) (n : Nat) (xs : List Int) (s : AS) (W : World) : Prop :=
  FA w base p q Fx Z s.o s.q s.f W ∧ AJf P n n (fun z => z ∈ xs) s.o s.q ∧ 2 * (n - s.o.length) + s.q.length ≤ 900
/-- One was taken. -/
def Y2 (w : World) (base p q : Nat) (Fx : Nat → Obj → Prop) (Z : Nat → Prop) (P : Nat → Nat → Prop) (n : Nat) (xs : List Int) (s : AS) (W : World) : Prop :=
  ∃ x Q', s.q = x :: Q' ∧ FA w base p q Fx Z s.o Q' s.f W ∧ AJf P n n (fun z => z ∈ xs) s.o (x :: Q') ∧ 2 * (n - s.o.length) + Q'.length + 1 ≤ 900
/-- While its front is put in. -/
def J3 (w : World) (base p q : Nat) (Fx : Nat → Obj → Prop) (Z : Nat → Prop) (P : Nat → Nat → Prop) (n : Nat) (xs : List Int) (x : Int) (ys : List Int) (M k : Nat) (W : World) : Prop :=
  ∃ O Q F, FA w base p q Fx Z O Q F W ∧ IJf P n n (fun z => z ∈ xs) x ys M k O Q ∧ k ≤ ys.length
theorem J3.only {w : World} {base p q : Nat} {Fx : Nat → Obj → Prop} {Z T : Nat → Prop} {P : Nat → Nat → Prop} {n : Nat} {xs : List Int} {x : Int} {ys : List Int} {M k : Nat} {W W' : World} (h : J3 w base p q Fx Z P n xs x ys M k W) (ho : Only T W W') (hT : ∀ k, T k → (Z k ∧ base ≤ k ∧ ∀ o, ¬ Fx k o) ∨ W.heap.size ≤ k) : J3 w base p q Fx Z P n xs x ys M k W' := by
  obtain ⟨O, Q, F, h1, h2⟩ := h
  exact ⟨O, Q, F, h1.only ho hT, h2⟩
theorem J1.only {w : World} {base p q : Nat} {Fx : Nat → Obj → Prop} {Z T : Nat → Prop} {xs : List Int} {k : Nat} {W W' : World} (h : J1 w base p q Fx Z xs k W) (ho : Only T W W') (hT : ∀ k, T k → (Z k ∧ base ≤ k ∧ ∀ o, ¬ Fx k o) ∨ W.heap.size ≤ k) : J1 w base p q Fx Z xs k W' := by
  obtain ⟨Q, F, h1, h2⟩ := h
  exact ⟨Q, F, h1.only ho hT, h2⟩
set_option linter.unusedSimpArgs false in
set_option maxRecDepth 100000 in
set_option maxHeartbeats 8000000 in
theorem frontAll_calls {w : World} {base1 base2 QB n : Nat} {P : Nat → Nat → Prop} {SB : Nat → Prop} (hB : 0 < n → Bags w base1 QB n n P SB) (hn : n ≤ 300) {A : Option Addr} (hA : 0 < n → A = some ⟨QB, 0, none⟩) {v0 : Value} {xs : List Int} (hS : IsSetI w base2 v0 xs) (hxl : xs.length ≤ 300) :
    Calls Try.prog 35 #[.slice A n n, .agg #[v0]] w fun e w' => ∃ v O, e = .returned (.agg #[v]) ∧ IsSetI w' w.heap.size v O ∧ (∀ x : Int, x ∈ O ↔ ∃ y : Nat, x = (y : Int) ∧ Cl P n (fun z => z ∈ xs) y) ∧ Below w.heap.size w w' := by
  have H := Lib.hid (And.intro hB (And.intro hA hS))
  clear hB hA hS
  refine (callsIn_wide (n := 6)).1 ?_
  refine callsIn_of_wp_marks Try.func35 rfl trivial ?_ rfl
  simp only [Try.ntmps35, List.size_toArray, List.length_cons, List.length_nil, Nat.reduceAdd, Nat.reduceSub, Array.replicate_succ, Array.replicate_zero, List.push_toArray, List.append_toArray, List.nil_append, List.cons_append]
  refine wpIn_wide.2 ?_
  go_wp2_with fail
  generalize hX : World.alloc (World.alloc (World.alloc (World.alloc (World.alloc w _) _) _) _) _ = X
  obtain ⟨y2, y3, y4, y5, y6, yz, yb⟩ := five hX
  have hqn : QI.QueueAt X w.heap.size (w.heap.size + 1 + 1 + 1 + 1) (fun k => k = w.heap.size + 1 + 1 + 1 + 1) [] := by
    have h := QI.QueueAt.new ((((w.alloc (.cells #[.slice A n n] 54)).alloc (.cells #[v0] 57)).alloc (.cells #[.slice none 0 0] 57)).alloc (.cells #[.slice none 0 0] 57)) w.heap.size (by simp; omega)
    simp only [World.size_alloc] at h
    rw [← hX]; exact h
  obtain ⟨b2, h2⟩ : ∃ k, w.heap.size = k := ⟨_, rfl⟩
  obtain ⟨b3, h3⟩ : ∃ k, b2 + 1 = k := ⟨_, rfl⟩
  obtain ⟨r4, h4⟩ : ∃ k, b3 + 1 = k := ⟨_, rfl⟩
  obtain ⟨p5, h5⟩ : ∃ k, r4 + 1 = k := ⟨_, rfl⟩
  obtain ⟨q6, h6⟩ : ∃ k, p5 + 1 = k := ⟨_, rfl⟩
  rw [h2, h3, h4, h5, h6] at hqn y6 ⊢
  rw [h2, h3, h4, h5] at y5
  rw [h2, h3, h4] at y4
  rw [h2, h3] at y3
  rw [h2] at y2 yz yb
  have hFA : FA w b2 p5 q6 (Fx0 b2 r4 n A) (Z0 b2 b3 r4) [] [] (fun k => k = q6) X := by
    refine ⟨yb, ?_, ?_, ⟨_, y5, ⟨World.ownsRow_nil _ _ _ _, List.Pairwise.nil⟩, fun g hg => by cases hg⟩, hqn, ?_, ⟨by show ¬ p5 = q6; omega, by omega⟩⟩
    · rintro z o (⟨rfl, rfl⟩ | ⟨rfl, rfl⟩)
      · exact y2
      · exact y4
    · rintro z o (⟨rfl, _⟩ | ⟨rfl, _⟩)
      · exact .inl rfl
      · exact .inr (.inr rfl)
    · rintro z (rfl | rfl | rfl) <;> refine ⟨by omega, ?_, by omega⟩
      · show ¬ _ = q6; omega
      · show ¬ _ = q6; omega
      · show ¬ _ = q6; omega
  have HB := Lib.hid (And.intro h2 (And.intro h3 (And.intro h4 (And.intro h5 h6))))
  have HX := Lib.hid hFA
  have c3 := cell_of_blk _ _ _ _ _ y3 0
  clear hX y2 y3 y4 y5 y6 yz yb hqn hFA h2 h3 h4 h5 h6
  obtain ⟨A0, c0, rfl, hca, hmax⟩ := SI.isset_cellsAt H.out.2.2
  clear hca
  refine (SI.all (.slice A0 xs.length c0) X).mono ?_
  rintro e X1 ⟨rfl, hX1⟩
  obtain ⟨BX, hBX⟩ : ∃ k, X.heap.size = k := ⟨_, rfl⟩
  have hF1 : FA w b2 p5 q6 (FxP (Fx0 b2 r4 n A) BX (.cells #[.slice A0 xs.length c0] 57)) (ZP (Z0 b2 b3 r4) BX) [] [] (fun k => k = q6) X1 := by
    have hb := heap_alloc_new' X (.cells #[.slice A0 xs.length c0] 57)
    refine HX.out.more (W' := X1) (by rw [hX1]; exact Only.alloc _ _ _) ?_ (fun z hz => .inl hz) ?_
    · rintro z (h | rfl)
      · exact .inl h
      · exact .inr ⟨by omega, by rw [hX1]; simp; omega⟩
    · rintro z o (h | ⟨rfl, rfl⟩)
      · exact .inl h
      · exact .inr ⟨.inr rfl, by rw [hX1, ← hBX]; exact hb⟩
  have H1 := Lib.hid hF1
  rw [hBX]
  clear hF1 hX1 hBX HX c3
  go_wp2_with fail
  obtain ⟨D, hD⟩ : ∃ k, X1.heap.size = k := ⟨_, rfl⟩
  have hlD : b2 < D ∧ r4 < D ∧ BX < D := ⟨hD ▸ (H1.out.rsv b2 (.inl (.inl rfl))).1, hD ▸ (H1.out.rsv r4 (.inl (.inr (.inr rfl)))).1, hD ▸ (H1.out.rsv BX (.inr rfl)).1⟩
  have hfxD : ∀ (d : Nat) (o x : Obj), D ≤ d → ¬ FxP (Fx0 b2 r4 n A) BX x d o := fun d o x hd e => by
    rcases e with (⟨e, _⟩ | ⟨e, _⟩) | ⟨e, _⟩ <;> omega
  have HLD := Lib.hid (And.intro hlD hfxD)
  clear hlD hfxD
  refine (wpIn_wide (n := 6)).1 ?_
  generalize hact : (Act.mk _ _ : Act) = a0
  refine wpIn_rg_out (n := 6) rfl (by omega) (gf := 71) (lb := #[.pointer (some ⟨BX, 0, none⟩)]) (by rw [← hact]; rfl) trivial (enters_of Try.func71 (by kernel_rfl) rfl)
    (fun _ => rfl) (hseq := SI.all_iter 5 BX _ A0 c0 xs hmax (J1 w b2 p5 q6 (FxP (Fx0 b2 r4 n A) BX (.cells #[.slice A0 xs.length c0] 57)) (ZP (ZP (ZP (Z0 b2 b3 r4) BX) D) (D + 1)) xs) ?rd)
    (fun k W => k < xs.length ∧ J1 w b2 p5 q6 (FxP (Fx0 b2 r4 n A) BX (.cells #[.slice A0 xs.length c0] 57)) (ZP (ZP (ZP (Z0 b2 b3 r4) BX) D) (D + 1)) xs k W) (fun _ _ => False)
    ?hJ ?hYd (fun _ _ _ h _ => h.elim) (fun k A B hj ⟨hk, e⟩ _ => ⟨⟨hk, by rw [e]; exact hj⟩, by rw [e], by rw [e]⟩) ?h0
    (fun k a' _ => ∃ x : Int, xs[k]? = some x ∧ a' = Act.mk ((a0.tmps.setIfInBounds 12 (.int .i64 x)).setIfInBounds 7 (.int .i64 x)) []) (fun _ _ _ _ h _ => h) ?assign ?body ?done (fun _ _ h _ => h.elim)
  case rd =>
    rintro k W ⟨Q, F, h1, _⟩
    have hb2 := HB.out.1
    have hbel := h1.below
    rw [← hb2] at hbel
    exact ⟨cells_at H.out.2.2 hbel, cell_of_blk _ _ _ _ _ (h1.fx BX _ (.inr ⟨rfl, rfl⟩)) 0⟩
  case hJ =>
    rw [hD]
    intro k A' B' hj ho
    exact hj.only ho (fun j hj => .inl ⟨by subst hj; exact .inr rfl, by have := HLD.out.1; omega, fun o => HLD.out.2 j o _ (by omega)⟩)
  case hYd =>
    rw [hD]
    intro k A' B' hj ho
    exact ⟨hj.1, hj.2.only ho (fun j hj => .inl ⟨by subst hj; exact .inr rfl, by have := HLD.out.1; omega, fun o => HLD.out.2 j o _ (by omega)⟩)⟩
  case h0 =>
    rw [hD]
    intro W ho hlt
    refine ⟨[], _, H1.out.more ho ?_ (fun z hz => .inl (.inl hz)) (fun z o hz => .inl hz), fun y => by simp, by simp, by omega⟩
    rintro z ((h | rfl) | rfl)
    · exact .inl h
    · exact .inr ⟨by omega, by omega⟩
    · exact .inr ⟨by omega, by omega⟩
  case assign =>
    intro k W K hy _ hK
    obtain ⟨x, hx⟩ : ∃ x, xs[k]? = some x := ⟨_, List.getElem?_eq_getElem hy.1⟩
    have HY := Lib.hid hx
    have he : SI.encs xs k = #[.int .i64 x] := by simp [SI.encs, hx]
    rw [he]
    clear hx he hy
    subst hact
    gi_wp2
    exact hK _ _ (Only.refl _ _) ⟨x, HY.out, rfl⟩
  case body =>
    rw [hD]
    rintro k a' W ⟨hk, Q, F, h1, h2, h3, h4⟩ ⟨x, hx, rfl⟩ hDd ⟨r, hDl⟩
    subst hact
    simp only [List.setIfInBounds_toArray, List.set_cons_zero, List.set_cons_succ]
    have HP := Lib.hid (h1.put x (by omega))
    have HQ := Lib.hid (And.intro h2 (And.intro h3 hx))
    clear h1 h2 h3 h4 hx hDd hDl
    gi_wp2_with fail
    refine ⟨trivial, (CallsIn.inRound _ (callsIn_wide.2 HP.out)).mono ?_⟩
    rintro e W' ⟨⟨bb, rfl⟩, Q', F', g1, g2, g3, g4⟩
    have HG := Lib.hid (And.intro g1 (And.intro g2 (And.intro g3 g4)))
    clear g1 g2 g3 g4 HP
    gi_wp2_with fail
    refine ⟨HG.out.2.2.2 D (.inl (.inr rfl)), HG.out.2.2.2 (D + 1) (.inr rfl), k + 1, rfl, Q', F', HG.out.1, fun y => ?_, by have := HG.out.2.2.1; have := HQ.out.2.1; omega, by omega⟩
    rw [HG.out.2.1, HQ.out.1, List.take_add_one, HQ.out.2.2]
    simp
  case done =>
    rw [hD]
    rintro k W ⟨Q, F, h1, h2, h3, h4⟩ hk hDd
    subst hk
    rw [List.take_length] at h2
    subst hact
    have hdr := QI.drain q6 W
    have H2 := Lib.hid (And.intro h1 (And.intro h2 (And.intro h3 hDd)))
    clear h1 h2 h3 h4 hDd
    go_wp2_with fail
    refine hdr.mono ?_
    rintro e W1 ⟨rfl, hW1⟩
    obtain ⟨BD, hBD⟩ : ∃ k, W.heap.size = k := ⟨_, rfl⟩
    obtain ⟨DO, hDO⟩ : ∃ o : Obj, o = .cells #[.pointer (some ⟨q6, 0, none⟩)] 107 := ⟨_, rfl⟩
    have hF2 : FA w b2 p5 q6 (FxP (FxP (Fx0 b2 r4 n A) D (.deferred (some []))) BD DO) (ZP (ZP (ZP (ZP (Z0 b2 b3 r4) BX) D) (D + 1)) BD) [] Q F W1 := by
      have hb := heap_alloc_new' W DO
      rw [← hDO] at hW1
      refine H2.out.1.more (W' := W1) (by rw [hW1]; exact Only.alloc _ _ _) ?_ (fun z hz => .inl hz) ?_
      · rintro z (h | rfl)
        · exact .inl h
        · exact .inr ⟨by omega, by rw [hW1]; simp; omega⟩
      · rintro z o ((h | ⟨rfl, rfl⟩) | ⟨rfl, rfl⟩)
        · exact .inl (.inl h)
        · exact .inr ⟨.inl (.inl (.inr rfl)), by rw [hW1]; exact alloc_oldE H2.out.2.2.2⟩
        · exact .inr ⟨.inr rfl, by rw [hW1, ← hBD]; exact hb⟩
    have HQ0 := Lib.hid (And.intro H2.out.2.1 H2.out.2.2.1)
    have H3 := Lib.hid (And.intro hF2 hDO)
    rw [hBD]
    clear hF2 hDO hW1 hBD H2
    go_wp2_with fail
    obtain ⟨D2, hD2⟩ : ∃ k, W1.heap.size = k := ⟨_, rfl⟩
    obtain ⟨Fx2, hFx2⟩ : ∃ f, FxP (FxP (Fx0 b2 r4 n A) D (.deferred (some []))) BD DO = f := ⟨_, rfl⟩
    obtain ⟨Z2, hZ2⟩ : ∃ f, ZP (ZP (ZP (ZP (Z0 b2 b3 r4) BX) D) (D + 1)) BD = f := ⟨_, rfl⟩
    rw [hFx2, hZ2] at H3
    have hfx2 : Fx2 b2 (.cells #[.slice A n n] 54) ∧ Fx2 r4 (.cells #[.slice none 0 0] 57) ∧ Fx2 D (.deferred (some [])) ∧ Fx2 BD (.cells #[.pointer (some ⟨q6, 0, none⟩)] 107) ∧ Z2 D := by
      rw [← hFx2, ← hZ2]
      exact ⟨.inl (.inl (.inl ⟨rfl, rfl⟩)), .inl (.inl (.inr ⟨rfl, rfl⟩)), .inl (.inr ⟨rfl, rfl⟩), .inr ⟨rfl, H3.out.2.symm⟩, .inl (.inl (.inr rfl))⟩
    have hlt2 : ∀ z, Z2 z → z < D2 := fun z hz => hD2 ▸ (H3.out.1.rsv z hz).1
    have hF2 := Lib.hid (And.intro hfx2 (And.intro hlt2 (show ∀ d o, D2 ≤ d → ¬ Fx2 d o from fun d o hd e => by have := hlt2 d (H3.out.1.fz d o e); omega)))
    have H4 := Lib.hid H3.out.1
    have hbD2 : b2 ≤ D2 := hD2 ▸ H3.out.1.lt.1
    have hbD : b2 < D := HLD.out.1.1
    clear hFx2 hZ2 hfx2 hlt2 H3 HLD H1 hD
    refine (wpIn_wide (n := 6)).1 ?_
    generalize hact : (Act.mk _ _ : Act) = a1
    refine wpIn_rg_out (n := 6) rfl (by omega) (gf := 80) (lb := #[.pointer (some ⟨BD, 0, none⟩)]) (by rw [← hact]; rfl) trivial (enters_of Try.func80 (by kernel_rfl) rfl)
      (fun _ => rfl) (hseq := QI.drain_iter 5 BD _ q6 b2 (fun s => s.f) (fun s => s.q) (fun s : AS => 2 * (n - s.o.length) + s.q.length) (J2 w b2 p5 q6 Fx2 (ZP (ZP Z2 D2) (D2 + 1)) P n xs) ⟨[], Q, F⟩ ?hB2 (fun s W h => h.1.que))
      (Y2 w b2 p5 q6 Fx2 (ZP (ZP Z2 D2) (D2 + 1)) P n xs) (fun _ _ => False)
      ?hJ2 ?hYd2 (fun _ _ _ h _ => h.elim) ?hmv2 ?h02
      (fun s a' _ => ∃ x Q', s.q = x :: Q' ∧ a' = Act.mk ((a1.tmps.setIfInBounds 16 (.int .i64 x)).setIfInBounds 8 (.int .i64 x)) []) (fun _ _ _ _ h _ => h) ?assign2 ?body2 ?done2 (fun _ _ h _ => h.elim)
    case hB2 => exact fun s W h => cell_of_blk _ _ _ _ _ (h.1.fx BD _ hF2.out.1.2.2.2.1) 0
    case hJ2 =>
      rw [hD2]
      intro s A' B' hj ho
      exact ⟨hj.1.only ho (fun j hj => .inl ⟨by subst hj; exact .inr rfl, by omega, fun o => hF2.out.2.2 j o (by omega)⟩), hj.2⟩
    case hYd2 =>
      rw [hD2]
      rintro s A' B' ⟨x, Q', e, hj, hr⟩ ho
      exact ⟨x, Q', e, hj.only ho (fun j hj => .inl ⟨by subst hj; exact .inr rfl, by omega, fun o => hF2.out.2.2 j o (by omega)⟩), hr⟩
    case hmv2 =>
      rw [hD2]
      rintro ⟨O, Qs, F'⟩ A' B' ⟨hj, haj, hm⟩ ⟨hne, hq, ho⟩ _
      simp only at hj haj hm hne hq ho
      cases Qs with
      | nil => exact absurd rfl hne
      | cons x Q' =>
        obtain ⟨k1, k2⟩ := hj.take hq ho
        exact ⟨⟨x, Q', rfl, k1, haj, by simp at hm; omega⟩, k2 D2 (.inl (.inr rfl)), k2 (D2 + 1) (.inr rfl)⟩
    case h02 =>
      rw [hD2]
      intro W ho hlt
      refine ⟨H4.out.more ho ?_ (fun z hz => .inl (.inl hz)) (fun z o hz => .inl hz), AJf.start (fun x => HQ0.out.1 x), by have := HQ0.out.2; simp; omega⟩
      rintro z ((h | rfl) | rfl)
      · exact .inl h
      · exact .inr ⟨by omega, by omega⟩
      · exact .inr ⟨by omega, by omega⟩
    case assign2 =>
      rintro s W K ⟨x, Q', e, hj, hr⟩ _ hK
      have HY := Lib.hid e
      simp only [e, List.headD_cons]
      clear e hj hr
      subst hact
      gi_wp2
      exact hK _ _ (Only.refl _ _) ⟨x, Q', HY.out, rfl⟩
    case body2 =>
      rw [hD2]
      rintro ⟨O, Qs, F'⟩ a' W' ⟨x0, Q0', e0, hj, haj, hm⟩ ⟨x, Q', e, rfl⟩ hDd ⟨r, hDl⟩
      simp only at e0 e hj haj hm
      obtain ⟨rfl, rfl⟩ : x0 = x ∧ Q0' = Q' := by rw [e0] at e; simpa using e
      subst hact
      simp only [List.setIfInBounds_toArray, List.set_cons_zero, List.set_cons_succ]
      have c2 := cell_of_blk _ _ _ _ _ (hj.fx b2 _ hF2.out.1.1) 0
      simp at c2
      have HJ := Lib.hid (And.intro hj (And.intro haj (And.intro hm (And.intro hDd hDl))))
      have HE0 := Lib.hid e0
      clear hj haj hm hDd hDl e0 e
      by_cases hneg : x0 < 0
      · have hs : x0 < 0 ∨ (n : Int) ≤ x0 := .inl hneg
        have HS := Lib.hid (HJ.out.2.1.skip hs)
        clear hs
        gi_wp2_with fail
        refine ⟨rfl, rfl, ⟨O, Q0', F'⟩, ?_, HJ.out.1, HS.out, by have := HJ.out.2.2.1; simp; omega⟩
        rw [HE0.out]; simp
      · by_cases hbig : (n : Int) ≤ x0
        · have HS := Lib.hid (HJ.out.2.1.skip (.inr hbig))
          gi_wp2_with fail
          refine ⟨rfl, rfl, ⟨O, Q0', F'⟩, ?_, HJ.out.1, HS.out, by have := HJ.out.2.2.1; simp; omega⟩
          rw [HE0.out]; simp
        · obtain ⟨v, rfl⟩ : ∃ v : Nat, x0 = (v : Int) := ⟨x0.toNat, by omega⟩
          have hvn : v < n := by omega
          have hv0 : 0 ≤ (v : Int) := by omega
          have hv1 : (v : Int) < (n : Int) := by omega
          obtain rfl := H.out.2.1 (by omega)
          have hbel : Below w.heap.size w W' := by have := HJ.out.1.below; rwa [← HB.out.1] at this
          obtain ⟨vv, ys, cQ0, hsv, hyl, _, hym⟩ := (H.out.1 (by omega)).get hvn
          have cQ := (hbel.cell (World.block_lt_of_cell? w _ cQ0)).trans cQ0
          obtain ⟨A3, c3, rfl, hca3, hmax3⟩ := SI.isset_cellsAt hsv
          have HS := Lib.hid (And.intro hsv (And.intro hym hyl))
          have hall := SI.all (.slice A3 ys.length c3) W'
          have HALL := Lib.hid hall
          clear hbel hsv hym hyl hca3 hall cQ0
          gi_wp2_with fail
          refine ⟨trivial, (CallsIn.inRound _ (callsIn_wide.2 HALL.out)).mono ?_⟩
          rintro e W3 ⟨rfl, hW3⟩
          obtain ⟨BI, hBI⟩ : ∃ k, W'.heap.size = k := ⟨_, rfl⟩
          obtain ⟨BO, hBO⟩ : ∃ o : Obj, o = .cells #[.slice A3 ys.length c3] 57 := ⟨_, rfl⟩
          have hW3o : Only (fun _ => False) W' W3 := by rw [hW3]; exact Only.alloc _ _ _
          have hW3b : W3.heap[BI]? = some BO := by rw [hW3, ← hBI, hBO]; exact heap_alloc_new' W' _
          have hW3z : W3.heap.size = BI + 1 := by rw [hW3, ← hBI]; simp
          have hd3 := (hW3o.block D2 (lt_blk HJ.out.2.2.2.1) id).trans HJ.out.2.2.2.1
          have hl3 := (hW3o.block (D2 + 1) (lt_blk HJ.out.2.2.2.2) id).trans HJ.out.2.2.2.2
          have hlz := lt_blk HJ.out.2.2.2.2
          have HW3 := Lib.hid (And.intro hW3o (And.intro hW3b (And.intro hW3z (And.intro hd3 (And.intro hl3 (And.intro (show D2 + 1 < BI by omega) (And.intro hBO hBI)))))))
          rw [hBI]
          clear hW3 hW3o hW3b hW3z hd3 hl3 hlz HALL cQ c2 hBI hBO
          gi_wp2_with fail
          obtain ⟨LI, hLI⟩ : ∃ k, W3.heap.size = k := ⟨_, rfl⟩
          have hLI2 : LI = BI + 1 := by rw [← hLI]; exact HW3.out.2.2.1
          have hfx3 : ∀ o, ¬ FxP (FxP (FxP Fx2 D2 (.deferred (some []))) (D2 + 1) (.loop r)) BI BO LI o := fun o e => by
            have h1 := HW3.out.2.2.2.2.2.1
            rcases e with ((e | ⟨e, _⟩) | ⟨e, _⟩) | ⟨e, _⟩
            · exact hF2.out.2.2 LI o (by omega) e
            · omega
            · omega
            · omega
          generalize hact : (Act.mk _ _ : Act) = a2
          refine wpIn_rg_in (n := 4) (l₀ := D2 + 1) (r₀ := r) rfl HW3.out.2.2.2.2.1 (by omega) (gf := 71) (lb := #[.pointer (some ⟨BI, 0, none⟩)]) (by rw [← hact]; rfl) trivial (enters_of Try.func71 (by kernel_rfl) rfl)
            (fun _ => rfl) (hseq := SI.all_iter 3 BI _ A3 c3 ys hmax3 (J3 w b2 p5 q6 (FxP (FxP (FxP Fx2 D2 (.deferred (some []))) (D2 + 1) (.loop r)) BI BO) (ZP (ZP (ZP (ZP Z2 D2) (D2 + 1)) BI) LI) P n xs (v : Int) ys (2 * (n - O.length) + Q0'.length)) ?rd3)
            (fun k W => k < ys.length ∧ J3 w b2 p5 q6 (FxP (FxP (FxP Fx2 D2 (.deferred (some []))) (D2 + 1) (.loop r)) BI BO) (ZP (ZP (ZP (ZP Z2 D2) (D2 + 1)) BI) LI) P n xs (v : Int) ys (2 * (n - O.length) + Q0'.length) k W) (fun _ _ => False)
            ?hJ3 ?hYd3 (fun _ _ _ h _ => h.elim) (fun k A B hj ⟨hk, e⟩ _ => ⟨⟨hk, by rw [e]; exact hj⟩, by rw [e]⟩) ?h03
            (fun k a' _ => ∃ x : Int, ys[k]? = some x ∧ a' = Act.mk ((a2.tmps.setIfInBounds 30 (.int .i64 x)).setIfInBounds 9 (.int .i64 x)) []) (fun _ _ _ _ h _ => h) ?assign3 ?body3 ?done3 (fun _ _ h _ => h.elim)
          case rd3 =>
            rintro k W ⟨O', Q', F2, h1, _⟩
            have hbel := h1.below
            rw [← HB.out.1] at hbel
            have hfb := h1.fx BI _ (.inr ⟨rfl, rfl⟩)
            rw [HW3.out.2.2.2.2.2.2.1] at hfb
            exact ⟨cells_at HS.out.1 hbel, cell_of_blk _ _ _ _ _ hfb 0⟩
          case hJ3 =>
            rw [hLI]
            intro k A' B' hj ho
            exact hj.only ho (fun j hj => .inl ⟨by subst hj; exact .inr rfl, by have := HW3.out.2.2.2.2.2.1; omega, fun o => by subst hj; exact hfx3 o⟩)
          case hYd3 =>
            rw [hLI]
            intro k A' B' hj ho
            exact ⟨hj.1, hj.2.only ho (fun j hj => .inl ⟨by subst hj; exact .inr rfl, by have := HW3.out.2.2.2.2.2.1; omega, fun o => by subst hj; exact hfx3 o⟩)⟩
          case h03 =>
            rw [hLI]
            intro W ho hlt
            have h34 := HW3.out.1.trans ho (fun _ _ e => e)
            refine ⟨O, Q0', F', HJ.out.1.more h34 ?_ (fun z hz => .inl (.inl hz)) ?_, HJ.out.2.1.enter, by omega⟩
            · rintro z ((h | rfl) | rfl)
              · exact .inl h
              · exact .inr ⟨by have := HW3.out.2.2.2.2.2.2.2; omega, by omega⟩
              · exact .inr ⟨by have := HW3.out.2.2.2.2.2.2.2; omega, by omega⟩
            · rintro z o (((h | ⟨rfl, rfl⟩) | ⟨rfl, rfl⟩) | ⟨rfl, rfl⟩)
              · exact .inl h
              · exact .inr ⟨.inl (.inl (.inl (.inr rfl))), (ho.block _ (lt_blk HW3.out.2.2.2.1) id).trans HW3.out.2.2.2.1⟩
              · exact .inr ⟨.inl (.inl (.inr rfl)), (ho.block _ (lt_blk HW3.out.2.2.2.2.1) id).trans HW3.out.2.2.2.2.1⟩
              · exact .inr ⟨.inl (.inr rfl), (ho.block _ (lt_blk HW3.out.2.1) id).trans HW3.out.2.1⟩
          case assign3 =>
            intro k W K hy _ hK
            obtain ⟨x, hx⟩ : ∃ x, ys[k]? = some x := ⟨_, List.getElem?_eq_getElem hy.1⟩
            have HY := Lib.hid hx
            have he : SI.encs ys k = #[.int .i64 x] := by simp [SI.encs, hx]
            rw [he]
            clear hx he hy
            subst hact
            gi_wp2
            exact hK _ _ (Only.refl _ _) ⟨x, HY.out, rfl⟩
          case body3 =>
            rw [hLI]
            rintro k a' W ⟨hk, O', Q', F2, h1, h2, h3⟩ ⟨x, hx, rfl⟩ ⟨r3, hDl⟩
            subst hact
            simp only [List.setIfInBounds_toArray, List.set_cons_zero, List.set_cons_succ]
            have HP := Lib.hid (h1.add x (by have := h2.len; omega))
            have HQ := Lib.hid (And.intro h1 (And.intro h2 hx))
            clear h1 h2 h3 hx hDl
            gi_wp2_with fail
            refine ⟨trivial, (CallsIn.inRound _ (callsIn_wide.2 HP.out)).mono ?_⟩
            rintro e W5 ⟨rfl, g1, g2⟩
            by_cases hm : x ∈ O'
            · rw [decide_eq_true hm]
              have HG := Lib.hid (And.intro hm (And.intro g1 g2))
              clear hm g1 g2 HP
              gi_wp2_with fail
              have hins : ins ltI x O' = O' := by unfold ins; rw [if_pos HG.out.1]
              have hg1 := HG.out.2.1
              rw [hins] at hg1
              exact ⟨HG.out.2.2 LI (.inr rfl), k + 1, rfl, O', Q', F2, hg1, HQ.out.2.1.old HQ.out.2.2 HG.out.1, by omega⟩
            · rw [decide_eq_false hm]
              have hql : Q'.length < 1000 := by have := HQ.out.2.1.meas; have := HJ.out.2.2.1; simp at this; omega
              have HP2 := Lib.hid (g1.put x hql)
              have HG := Lib.hid (And.intro hm g2)
              clear hm g1 g2 HP hql
              gi_wp2_with fail
              refine ⟨trivial, (CallsIn.inRound _ (callsIn_wide.2 HP2.out)).mono ?_⟩
              rintro e W6 ⟨⟨bb, rfl⟩, Q2, F3, k1, k2, k3, k4⟩
              have HK := Lib.hid (And.intro k1 (And.intro k2 (And.intro k3 k4)))
              clear k1 k2 k3 k4 HP2
              gi_wp2_with fail
              obtain ⟨wn, hwn, hpw⟩ := (HS.out.2.1 x).1 (List.mem_of_getElem? HQ.out.2.2)
              refine ⟨(HK.out.2.2.2 LI (.inr rfl)).trans (HG.out.2 LI (.inr rfl)), k + 1, rfl, _, Q2, F3, HK.out.1, HQ.out.2.1.new HQ.out.2.2 HG.out.1 hwn ?_ ?_ HK.out.2.1 HK.out.2.2.1, by omega⟩
              · rcases HJ.out.2.1.q (v : Int) List.mem_cons_self with h | h
                · exact .base h hvn hpw
                · obtain ⟨y, e, hy⟩ := HJ.out.2.1.sub _ h
                  obtain rfl : v = y := by omega
                  exact .step hy hvn hpw
              · obtain ⟨vo, _, hso, _⟩ := HQ.out.1.out
                have h1 := set_len (N := n) (srt_ins ordI x O' hso.srt) (fun z hz => by
                  rcases (mem_ins x z O').1 hz with rfl | hz
                  · exact ⟨wn, hwn, (H.out.1 (by omega)).few v wn hpw⟩
                  · obtain ⟨y, e, hy⟩ := HQ.out.2.1.sub z hz
                    refine ⟨y, e, ?_⟩
                    cases hy with
                    | base _ _ hp => exact (H.out.1 (by omega)).few _ _ hp
                    | step _ _ hp => exact (H.out.1 (by omega)).few _ _ hp)
                rw [length_ins, if_neg HG.out.1] at h1
                exact h1
          case done3 =>
            rw [hLI]
            rintro k W ⟨O', Q', F2, h1, h2, h3⟩ hk hlt
            subst hk
            subst hact
            have hd5 := h1.fx D2 _ (.inl (.inl (.inr ⟨rfl, rfl⟩)))
            have hl5 := h1.fx (D2 + 1) _ (.inl (.inr ⟨rfl, rfl⟩))
            have haj := h2.leave (fun w hw => (HS.out.2.1 (w : Int)).2 ⟨w, rfl, hw⟩)
            have hfa := h1.less (Fx' := Fx2) (Z' := ZP (ZP Z2 D2) (D2 + 1)) (fun z hz => .inl (.inl hz)) (fun z o hz => ⟨.inl (.inl (.inl hz)), .inl (.inl (H4.out.fz z o hz))⟩)
            have HH := Lib.hid (And.intro hd5 (And.intro hl5 (And.intro haj (And.intro hfa h2.meas))))
            clear hd5 hl5 haj hfa h1 h2 h3
            gi_wp2_with fail
            refine ⟨HH.out.1.trans HJ.out.2.2.2.1.symm, HH.out.2.1.trans HJ.out.2.2.2.2.symm, ⟨O', Q', F2⟩, ?_, HH.out.2.2.2.1, HH.out.2.2.1, ?_⟩
            · rw [HE0.out]; have := HH.out.2.2.2.2; simp; omega
            · have := HH.out.2.2.2.2; have := HJ.out.2.2.1; simp; omega
    case done2 =>
      rw [hD2]
      rintro ⟨O, Qs, F'⟩ W' ⟨hj, haj, hm⟩ hq hDd
      simp only at hj haj hm hq
      subst hq
      subst hact
      obtain ⟨v, k1, k2, k3⟩ := hj.out
      obtain ⟨A5, c6, rfl, _, _⟩ := SI.isset_cellsAt k2
      have k4 := hj.fx r4 _ hF2.out.1.2.1
      have k5 := hj.fx D _ hF2.out.1.2.2.1
      have c5 := cell_of_blk _ _ _ _ _ k1 0
      have c4 := cell_of_blk _ _ _ _ _ k4 0
      have f4 : W'.frozen? ⟨r4, 0, none⟩ = false := by simp [World.frozen?, k4]
      simp at c5 c4
      have hDD : D < D2 := hF2.out.2.1 D hF2.out.1.2.2.2.2
      have hrD : r4 < D2 := hF2.out.2.1 r4 (H4.out.fz r4 _ hF2.out.1.2.1)
      have HH := Lib.hid (And.intro hj (And.intro haj (And.intro hDd (And.intro k2 (And.intro k4 (And.intro k5 (And.intro hDD hrD)))))))
      clear hj haj hm hDd k1 k2 k3 k4 k5 hdr
      go_wp2_with fail
      obtain ⟨v, hv⟩ : ∃ v, (Value.slice A5 O.length c6) = v := ⟨_, rfl⟩
      have HV := Lib.hid hv
      rw [hv] at HH c5 ⊢
      clear hv
      have hos := Only.setCell W' ⟨r4, 0, none⟩ v
      have hcB : (W'.setCell ⟨r4, 0, none⟩ v).cell? ⟨r4, 0, none⟩ = some v := by have := HH.out.2.2.2.2.1; simp [World.setCell, World.cell?, Array.getElem?_modify, this]
      have hlW := lt_blk HH.out.2.2.1
      have hkE := (hos.block D2 hlW (fun e => by have e : D2 = r4 := e; omega)).trans HH.out.2.2.1
      have hkD := (hos.block D (by omega) (fun e => by have e : D = r4 := e; have h := HH.out.2.2.2.2.2.1; have h2 := HH.out.2.2.2.2.1; rw [e] at h; rw [h] at h2; cases h2)).trans HH.out.2.2.2.2.2.1
      have hsz := hos.size
      have hvr : ∀ g, v.ownBlock = some g → g ≠ r4 := fun g hg e => isset_ne HH.out.2.2.2.1 HH.out.2.2.2.2.1 (by decide) (by rw [hg, e])
      have hvE : ∀ g, v.ownBlock = some g → g ≠ D2 := fun g hg e => by
        have h1 := HH.out.2.2.1
        rcases own_forms HH.out.2.2.2.1.own with ⟨h, _⟩ | ⟨g', cap, cur, h, _, hh, _⟩
        · rw [h] at hg; cases hg
        · rw [h] at hg
          simp only [Value.ownBlock, Option.some.injEq] at hg
          rw [hg, e, h1] at hh; cases hh
      have hvD : ∀ g, v.ownBlock = some g → g ≠ D := fun g hg e => by
        have h1 := HH.out.2.2.2.2.2.1
        rcases own_forms HH.out.2.2.2.1.own with ⟨h, _⟩ | ⟨g', cap, cur, h, _, hh, _⟩
        · rw [h] at hg; cases hg
        · rw [h] at hg
          simp only [Value.ownBlock, Option.some.injEq] at hg
          rw [hg, e, h1] at hh; cases hh
      have hset := HH.out.2.2.2.1.only hos (fun g hg e => hvr g hg e)
      have hbl : Below b2 w (W'.setCell ⟨r4, 0, none⟩ v) := HH.out.1.below.setCell (by show b2 ≤ r4; have := HB.out; omega) _
      generalize W'.setCell ⟨r4, 0, none⟩ v = Wf at *
      have hEs2 : D2 < Wf.heap.size := lt_blk hkE
      have hP1 := Only.putObj Wf D2 (.deferred none)
      have hD2' : (Wf.putObj D2 (.deferred none)).heap[D]? = some (.deferred (some [])) := (World.putObj_heap_other (by omega)).trans hkD
      have hP2 := Only.putObj (Wf.putObj D2 (.deferred none)) D (.deferred none)
      have hrne : r4 ≠ D := fun e => by have h := HH.out.2.2.2.2.2.1; have h2 := HH.out.2.2.2.2.1; rw [← e] at h; rw [h] at h2; cases h2
      have hq : ((Wf.putObj D2 (.deferred none)).putObj D (.deferred none)).cell? ⟨r4, 0, none⟩ = some v := by
        rw [hP2.cell (p := ⟨r4, 0, none⟩) (by simp; omega) (by show ¬ (r4 = D); omega), hP1.cell (p := ⟨r4, 0, none⟩) (by show r4 < _; omega) (by show ¬ (r4 = D2); omega)]
        exact hcB
      have hset2 := (hset.only hP1 (fun g hg e => hvE g hg e)).only hP2 (fun g hg e => hvD g hg e)
      have hbW := HB.out
      refine ⟨by simp, .inl ⟨_, _, rfl, run_takeDeferred hkE, ?_⟩⟩
      refine ⟨by simp, .inl ⟨_, _, rfl, run_takeDeferred hD2', ?_⟩⟩
      refine ⟨.agg #[v], by simp [results, Try.results35, go_sem, hq], v, O, rfl, by rw [hbW.1]; exact hset2, fun x => ?_, ?_⟩
      · constructor
        · intro hx
          exact HH.out.2.1.nat x hx
        · rintro ⟨y, rfl, hy⟩
          exact (HH.out.2.1.fin y).2 hy
      · rw [hbW.1]
        exact (hbl.trans (hP1.below (by omega) (fun k hk e => by have e : k = D2 := e; omega))).trans (hP2.below (by simp; omega) (fun k hk e => by have e : k = D := e; omega))
end Go.Proofs.Ytnkbbjeepdjamaa
