/- dom.finder.visit: numbers depth first, with parents. Conditions: few places. -/
import Derived.Test.YtnkbbjeepdjamaaM5
import Derived.Test.YtnkbbjeepdjamaaM1
import Derived.Test.YtnkbbjeepdjamaaM3
import Derived.Test.YtnkbbjeepdjamaaM2
import Derived.Test.YtnkbbjeepdjamaaGApp
import Derived.LoopTactic
import Derived.Outline
import Derived.Deep.QuietTactic
import Derived.BigQuiet
import Derived.StillTailTactics
namespace Go.Proofs.Ytnkbbjeepdjamaa
open Go.RowKit
namespace LT
/-- The numbers and the parents, as rows of numbers. -/
structure VM (n : Nat) (s : VSt) (semi par : List Int) : Prop where
  ls : semi.length = n
  lp : par.length = n
  met : ∀ (j v : Nat), s.pre[j]? = some v → semi[v]? = some (j : Int)
  un : ∀ v, v < n → v ∉ s.pre → semi[v]? = some (-1)
  par : ∀ (j v : Nat), 0 < j → s.pre[j]? = some v → ∃ q u : Nat, s.pp[j]? = some q ∧ s.pre[q]? = some u ∧ par[v]? = some (u : Int)
theorem VM.push {n : Nat} {s : VSt} {semi par : List Int} (h : VM n s semi par) (hl : s.pp.length = s.pre.length) {v q : Nat} (hv : v < n) (hn : v ∉ s.pre) (hp : 0 < s.pre.length → ∃ u : Nat, s.pre[q]? = some u ∧ par[v]? = some (u : Int)) :
    VM n (s.push v q) (semi.set v (s.pre.length : Int)) par := by
  have hvl : v < semi.length := by rw [h.ls]; exact hv
  refine ⟨by simp [h.ls], h.lp, fun j x hx => ?_, fun x hx hn' => ?_, fun j x h0 hx => ?_⟩
  · simp only [VSt.push] at hx
    rcases Nat.lt_or_ge j s.pre.length with hj | hj
    · rw [List.getElem?_append_left hj] at hx
      rw [List.getElem?_set_ne (fun e => hn (by rw [e]; exact List.mem_of_getElem? hx))]
      exact h.met j x hx
    · have hjl := (List.getElem?_eq_some_iff.1 hx).1
      simp at hjl
      obtain rfl : j = s.pre.length := by omega
      rw [List.getElem?_append_right (Nat.le_refl _), Nat.sub_self] at hx
      obtain rfl : v = x := by simpa using hx
      rw [List.getElem?_set_self hvl]
  · simp only [VSt.push, List.mem_append, List.mem_singleton, not_or] at hn'
    rw [List.getElem?_set_ne (fun e => hn'.2 e.symm)]
    exact h.un x hx hn'.1
  · simp only [VSt.push] at hx ⊢
    rcases Nat.lt_or_ge j s.pre.length with hj | hj
    · rw [List.getElem?_append_left hj] at hx
      obtain ⟨q', u, h1, h2, h3⟩ := h.par j x h0 hx
      exact ⟨q', u, getElem?_app h1, getElem?_app h2, h3⟩
    · have hjl := (List.getElem?_eq_some_iff.1 hx).1
      simp at hjl
      obtain rfl : j = s.pre.length := by omega
      rw [List.getElem?_append_right (Nat.le_refl _), Nat.sub_self] at hx
      obtain rfl : v = x := by simpa using hx
      obtain ⟨u, h1, h2⟩ := hp h0
      exact ⟨q, u, by rw [← hl]; simp, getElem?_app h1, h2⟩
theorem VM.under {n : Nat} {s : VSt} {semi par : List Int} (h : VM n s semi par) {w : Nat} (hw : w ∉ s.pre) (x : Int) : VM n s semi (par.set w x) := by
  refine ⟨h.ls, by simp [h.lp], h.met, h.un, fun j v h0 hv => ?_⟩
  obtain ⟨q, u, h1, h2, h3⟩ := h.par j v h0 hv
  exact ⟨q, u, h1, h2, by rw [List.getElem?_set_ne (fun e => hw (by rw [e]; exact List.mem_of_getElem? hv))]; exact h3⟩
/-- While a visit goes on. -/
structure VW (w : World) (base F n qp qs qr ql : Nat) (root label : List Int) (S : Nat → Prop) (s : VSt) (vv : Value) (par semi : List Int) : Prop where
  fm : FM w F n vv qp qs qr ql par semi root label
  vm : VM n s semi par
  row : RowAt w base 3 vv (s.pre.map iv)
  sep : ∀ g, vv.ownBlock = some g → ¬ S g ∧ g ≠ qp ∧ g ≠ qs ∧ g ≠ qr ∧ g ≠ ql
  sepS : ¬ S F ∧ ¬ S qp ∧ ¬ S qs
def VT (F qp qs : Nat) (vv : Value) (k : Nat) : Prop := k = F ∨ k = qp ∨ k = qs ∨ vv.ownBlock = some k
def VStp (F qp qs : Nat) (w : World) (vv : Value) (w' : World) (vv' : Value) : Prop := Only (VT F qp qs vv) w w' ∧ (vv'.ownBlock = vv.ownBlock ∨ ∃ g, vv'.ownBlock = some g ∧ w.heap.size ≤ g)
theorem VStp.refl (F qp qs : Nat) (w : World) (vv : Value) : VStp F qp qs w vv w vv := ⟨Only.refl _ _, .inl rfl⟩
theorem VStp.trans {F qp qs : Nat} {w w1 w2 : World} {v v1 v2 : Value} (h : VStp F qp qs w v w1 v1) (k : VStp F qp qs w1 v1 w2 v2) : VStp F qp qs w v w2 v2 := by
  refine ⟨h.1.trans k.1 (fun x hx e => ?_), ?_⟩
  · rcases e with e | e | e | e
    · exact .inl e
    · exact .inr (.inl e)
    · exact .inr (.inr (.inl e))
    · rcases h.2 with h2 | ⟨g, h2, h3⟩
      · exact .inr (.inr (.inr (by rw [← h2]; exact e)))
      · rw [h2] at e; injection e with e; omega
  · rcases k.2 with k2 | ⟨g, k2, k3⟩
    · rw [k2]; exact h.2
    · exact .inr ⟨g, k2, Nat.le_trans h.1.size k3⟩
theorem VStp.below {F qp qs : Nat} {w w' : World} (vv : Value) (h : Below w.heap.size w w') : VStp F qp qs w vv w' vv := ⟨(Only.of_below h).mono (fun k hk e => by omega), .inl rfl⟩
section
variable {w w' : World} {base F n qp qs qr ql : Nat} {root label : List Int} {S : Nat → Prop} {s : VSt} {vv : Value} {par semi : List Int}
theorem VW.later (h : VW w base F n qp qs qr ql root label S s vv par semi) (hb : Below w.heap.size w w') : VW w' base F n qp qs qr ql root label S s vv par semi :=
  ⟨h.fm.later hb, h.vm, h.row.only (Only.of_below hb) (fun g hg e => by have := (h.row.lt hg).1; omega), h.sep, h.sepS⟩
/-- The graph stays. -/
theorem VStp.gr {gv : Value} {b a : List (List Nat)} {vv' : Value} (h : VStp F qp qs w vv w' vv') (hw : VW w base F n qp qs qr ql root label S s vv par semi) (hg : Gr w base gv b a S) : Gr w' base gv b a S :=
  hg.only h.1 (fun g hs e => by
    rcases e with e | e | e | e
    · exact hw.sepS.1 (e ▸ hs)
    · exact hw.sepS.2.1 (e ▸ hs)
    · exact hw.sepS.2.2 (e ▸ hs)
    · exact (hw.sep g e).1 hs)
end
/-- One is met: its number is told, it is put behind those met. -/
theorem VW.put {base F n qp qs qr ql : Nat} {root label : List Int} {S : Nat → Prop} {s : VSt} {vv v' : Value} {par semi : List Int} {X W5 : World} {x : Int} {v q g : Nat} {gv : Value} {b a : List (List Nat)} (h : VW X base F n qp qs qr ql root label S s vv par semi) (hg : Gr X base gv b a S)
    (hvm : VM n (s.push v q) (semi.set v x) par) (k1 : RowAt W5 base 3 v' ((s.pre ++ [v]).map iv)) (k2 : Only (fun k => vv.ownBlock = some k) (((X.drewN 1).setCell ⟨qs, v, none⟩ (.int .i64 x)).alloc (.cells #[.int .i64 (g : Int)] 3)) W5)
    (k3 : v'.ownBlock = vv.ownBlock ∨ ∃ g, v'.ownBlock = some g ∧ X.heap.size ≤ g) :
    VW (W5.setCell ⟨F, 0, none⟩ v') base F n qp qs qr ql root label S (s.push v q) v' par (semi.set v x) ∧ VStp F qp qs X vv (W5.setCell ⟨F, 0, none⟩ v') v' := by
  have f1 := (h.fm.drewN 1).setS v x
  have hq1 := lt_blk h.fm.par
  have hq2 := lt_blk h.fm.semi
  have hq3 := lt_blk h.fm.root
  have hq4 := lt_blk h.fm.label
  have hF := lt_blk h.fm.blk
  have f2 := f1.later (w' := ((X.drewN 1).setCell ⟨qs, v, none⟩ (.int .i64 x)).alloc (.cells #[.int .i64 (g : Int)] 3)) ((Below.refl _ _).alloc (Nat.le_refl _) _)
  have f3 := f2.only k2 (h.row.ne_blk h.fm.blk (by decide)) (fun e => (h.sep _ e).2.1 rfl) (fun e => (h.sep _ e).2.2.1 rfl) (fun e => (h.sep _ e).2.2.2.1 rfl) (fun e => (h.sep _ e).2.2.2.2 rfl)
  have f4 := f3.setV v'
  have ho5 : Only (fun k => k = qs ∨ vv.ownBlock = some k) X W5 := (((Only.drewN (fun k => k = qs ∨ vv.ownBlock = some k) X 1).trans (Only.setCell _ ⟨qs, v, none⟩ (.int .i64 x)) (fun k _ e => .inl e)).trans (Only.alloc (fun _ => False) _ _) (fun _ _ e => e.elim)).trans k2 (fun k _ e => .inr e)
  have hs := Only.setCell W5 ⟨F, 0, none⟩ v'
  refine ⟨⟨f4, hvm, k1.only hs (fun g hg e => k1.ne_blk f3.blk (by decide) (by rw [hg]; exact congrArg some e)), fun g hg' => ?_, h.sepS⟩, (ho5.mono (fun k _ e => .inr (.inr (e.elim .inl .inr)))).trans hs (fun k _ e => .inl e), k3⟩
  rcases k3 with k3 | ⟨g', k3, k4⟩
  · exact h.sep g (by rw [← k3]; exact hg')
  · rw [k3] at hg'
    injection hg' with hg'
    exact ⟨fun e => by have := (hg.lt e).1; omega, by omega, by omega, by omega, by omega⟩
/-- One gets its parent. -/
theorem VW.under {base F n qp qs qr ql : Nat} {root label : List Int} {S : Nat → Prop} {s : VSt} {vv : Value} {par semi : List Int} {w : World} {x : Nat} (h : VW w base F n qp qs qr ql root label S s vv par semi) (hx : x ∉ s.pre) (y : Int) :
    VW (w.setCell ⟨qp, x, none⟩ (.int .i64 y)) base F n qp qs qr ql root label S s vv (par.set x y) semi ∧ VStp F qp qs w vv (w.setCell ⟨qp, x, none⟩ (.int .i64 y)) vv := by
  have ho := Only.setCell w ⟨qp, x, none⟩ (.int .i64 y)
  exact ⟨⟨h.fm.setP x y, h.vm.under hx y, h.row.only ho (fun g hg e => (h.sep g hg).2.1 e), h.sep, h.sepS⟩, ho.mono (fun k _ e => .inr (.inl e)), .inl rfl⟩
/-- What a visit leaves. -/
def VPost (w : World) (base F n qp qs qr ql : Nat) (root label : List Int) (S : Nat → Prop) (vv : Value) (s' : VSt) (w' : World) : Prop :=
  ∃ vv' par' semi', VW w' base F n qp qs qr ql root label S s' vv' par' semi' ∧ VStp F qp qs w vv w' vv'
/-- While the places behind one are gone through. -/
structure Mid (g : Nat → List Nat) (n v q : Nat) (s a : VSt) : Prop where
  inv : Inv g n a
  ext : Ext (s.push v q) a
  abv : ∀ j, s.pre.length ≤ j → j < a.pre.length → Abv a.pp s.pre.length j
theorem Mid.start {g : Nat → List Nat} {n v q : Nat} {s : VSt} (h : Inv g n s) (hv : v < n) (hn : v ∉ s.pre) (hq : 0 < s.pre.length → Abv s.pp q (s.pre.length - 1) ∧ q < s.pre.length ∧ ∃ u, s.pre[q]? = some u ∧ v ∈ g u) : Mid g n v q s (s.push v q) := by
  have hp := h.push hv hn hq
  have hl1 : (s.push v q).pre.length = s.pre.length + 1 := by simp [VSt.push]
  refine ⟨hp, Ext.refl _, fun j h1 h2 => ?_⟩
  obtain rfl : j = s.pre.length := by omega
  exact .refl (by rw [hp.len]; omega)
theorem Mid.child {g : Nat → List Nat} {n v q w : Nat} {s a : VSt} (h : Mid g n v q s a) (hw : w ∈ g v) : 0 < a.pre.length → Abv a.pp s.pre.length (a.pre.length - 1) ∧ s.pre.length < a.pre.length ∧ ∃ u, a.pre[s.pre.length]? = some u ∧ w ∈ g u := fun _ => by
  have hl1 : (s.push v q).pre.length = s.pre.length + 1 := by simp [VSt.push]
  have hl := h.ext.len
  exact ⟨h.abv _ (by omega) (by omega), by omega, v, h.ext.pre (by simp [VSt.push]), hw⟩
theorem Mid.next {g : Nat → List Nat} {n v q w k : Nat} {s a : VSt} (hg : ∀ i, ∀ w ∈ g i, w < n) (h : Mid g n v q s a) (hw : w ∈ g v) (hwn : w ∉ a.pre) (hk : n ≤ s.pre.length + (k + 1)) : Mid g n v q s (vis g k w s.pre.length a) := by
  have hl1 : (s.push v q).pre.length = s.pre.length + 1 := by simp [VSt.push]
  have hl := h.ext.len
  have hc := h.child hw (by omega)
  obtain ⟨d1, d2, d3⟩ := vis_right g n hg k w s.pre.length a h.inv (hg v w hw) hwn (by omega) (h.child hw)
  have hea : Ext a (vis g k w s.pre.length a) := (Ext.push a w _).trans d1.ext
  have hea1 := d1.ext.len
  have hl2 : (a.push w s.pre.length).pre.length = a.pre.length + 1 := by simp [VSt.push]
  have hst : Abv (vis g k w s.pre.length a).pp s.pre.length a.pre.length := by
    refine .step (by omega) (q := s.pre.length) (d1.ext.pp ?_) ((hea.abv (h.abv _ (Nat.le_refl _) (by omega))))
    simp [VSt.push, ← h.inv.len]
  refine ⟨d1.inv, h.ext.trans hea, fun j hj1 hj2 => ?_⟩
  rcases Nat.lt_or_ge j a.pre.length with hja | hja
  · exact hea.abv (h.abv j hj1 hja)
  · exact hst.trans (d3 j hja hj2)
set_option maxRecDepth 100000 in
set_option maxHeartbeats 4000000 in
theorem visit_calls {base F n qp qs qr ql : Nat} {root label : List Int} {gv : Value} {b a : List (List Nat)} {S : Nat → Prop} (hn : n ≤ 1048575) (hbn : b.length = n) (hb : ∀ (i : Nat) (l : List Nat), b[i]? = some l → ∀ x ∈ l, x < n) (hbl : ∀ (i : Nat) (l : List Nat), b[i]? = some l → l.length ≤ 1048575)
    (hr : root.length = n) (hl : label.length = n) : ∀ (k v q : Nat) (s : VSt) (w : World) (vv : Value) (par semi : List Int), VW w base F n qp qs qr ql root label S s vv par semi → Gr w base gv b a S → Inv (nb b) n s → v < n → v ∉ s.pre → n ≤ s.pre.length + k →
    (0 < s.pre.length → Abv s.pp q (s.pre.length - 1) ∧ q < s.pre.length ∧ ∃ u, s.pre[q]? = some u ∧ v ∈ nb b u) → (0 < s.pre.length → ∃ u : Nat, s.pre[q]? = some u ∧ par[v]? = some (u : Int)) → base ≤ w.heap.size →
    Calls Try.prog 51 #[.pointer (some ⟨F, 0, none⟩), gv, .int .i64 v] w fun e w' => e = .returned (.tuple #[]) ∧ VPost w base F n qp qs qr ql root label S vv (vis (nb b) k v q s) w'
  | 0 => by
    intro v q s w vv par semi hvw hg hi hv hns hk hq hp
    have h1 := room (hi.push hv hns hq).nd (hi.push hv hns hq).lt
    simp [VSt.push] at h1
    omega
  | k + 1 => by
    have IH := Lib.hid (visit_calls (base := base) (F := F) (qp := qp) (qs := qs) (qr := qr) (ql := ql) (gv := gv) (a := a) (S := S) hn hbn hb hbl hr hl k)
    intro v q s w vv par semi hvw hg hi hv hns hk hq hp hbase
    have hlt : ∀ i, ∀ x ∈ nb b i, x < n := fun i x hx => by
      unfold nb at hx
      rw [List.getD_eq_getElem?_getD] at hx
      cases hbi : b[i]? with
      | none => rw [hbi] at hx; simp at hx
      | some l => rw [hbi] at hx; exact hb i l hbi x hx
    have hmid := Mid.start hi hv hns hq
    have hroom := room hi.nd hi.lt
    obtain ⟨l, hbv⟩ : ∃ l, b[v]? = some l := ⟨_, List.getElem?_eq_getElem (by omega)⟩
    have hnb : nb b v = l := by unfold nb; rw [List.getD_eq_getElem?_getD, hbv]; rfl
    obtain ⟨A1, c1, rfl, _, _, _⟩ := rowAt_slice hvw.row
    obtain ⟨q1, p1, vs, us, rfl, _⟩ := hg.ex
    have hsl : (s.pre.map iv).length = s.pre.length := List.length_map _
    rw [hsl] at hvw
    rw [hsl]
    have hvm := hvw.vm.push hi.len hv hns hp
    have HM := Lib.hid (And.intro hmid (And.intro hvm (And.intro hroom (And.intro hbv (And.intro hnb hlt)))))
    have hsv := hvw.vm.un v hv hns
    have HW0 := Lib.hid (And.intro hvw (And.intro hg hbase))
    obtain ⟨X, hX⟩ : ∃ X, w.alloc (.cells #[.slice (some ⟨q1, 0, none⟩) b.length b.length, .slice (some ⟨p1, 0, none⟩) b.length b.length] 28) = X := ⟨_, rfl⟩
    obtain ⟨hx, hbx, hz⟩ := boxed hX rfl
    have hvx := hvw.later hbx
    have hgx := hg.later hbx
    have y2 := hvx.fm.cell.2.2.1
    have y0 := hvx.fm.cell.1
    have HX := Lib.hid (And.intro hvx (And.intro hgx (And.intro hx (And.intro hbx hz))))
    rw [← hX] at y2 y0
    have HXX := Lib.hid hX
    have i1 : 0 ≤ (v : Int) := by omega
    have i2 : (v : Int) < (n : Int) := by omega
    clear hmid hvm hbv hnb hlt hvx hgx hx hbx hz hX hvw hg hi hns hq hp hbase hsl
    have HBN := Lib.hid (And.intro hbn (And.intro hb hbl))
    rw [hbn] at *
    clear hbn hb hbl
    go_enter Try.func51, Try.ntmps51
    go_wp2_with fail
    rw [HXX.out]
    rw [HXX.out] at y2 y0
    go_still_tail 11, (by kernel_rfl)
    change wpList _ _ _ _ _ (X.drewN 1)
    have hfx := HX.out.1.fm.drewN 1
    have hf1 := hfx.setS v (s.pre.length : Int)
    have c2 := hfx.semi.cell hsv
    have f2 := hfx.semi.frozen v
    have y3 := hf1.cell.1
    have hr1 : RowAt ((X.drewN 1).setCell ⟨qs, v, none⟩ (.int .i64 (s.pre.length : Int))) base 3 (.slice A1 s.pre.length c1) (s.pre.map iv) :=
      (HX.out.1.row.only (Only.drewN (fun _ => False) X 1) (fun _ _ e => e)).only (Only.setCell _ ⟨qs, v, none⟩ _) (fun g hg e => (HX.out.1.sep g hg).2.2.1 e)
    have hbW : base ≤ ((X.drewN 1).setCell ⟨qs, v, none⟩ (.int .i64 (s.pre.length : Int))).heap.size := by have := HW0.out.2.2; have := HX.out.2.2.2.2; simp; omega
    obtain ⟨v', W5, hrn, k1, k2, k3⟩ := row_append (hr1.only (Only.alloc (fun _ => False) _ (.cells #[.int .i64 (v : Int)] 3)) (fun _ _ e => e)) ⟨((X.drewN 1).setCell ⟨qs, v, none⟩ (.int .i64 (s.pre.length : Int))).heap.size, 0, none⟩ v (cell_of_blk _ _ _ _ _ (heap_alloc_new' _ _) 0) (Nat.le_trans hbW (by simp)) (by omega)
    have hput := HX.out.1.put HX.out.2.1 HM.out.2.1 k1 k2 (k3.imp id (fun ⟨g, h1, h2⟩ => ⟨g, h1, Nat.le_trans (by simp) h2⟩))
    obtain ⟨A2, c2', rfl, _, _, _⟩ := rowAt_slice k1
    have hsl : ((s.pre ++ [v]).map iv).length = (s.push v q).pre.length := by simp [VSt.push]
    rw [hsl] at hput hrn k1 k3
    generalize hm2 : (s.push v q).pre.length = m2 at *
    have hF5 : W5.heap[F]? = some (.cells #[.slice A1 s.pre.length c1, .slice (some ⟨qp, 0, none⟩) n n, .slice (some ⟨qs, 0, none⟩) n n, .slice (some ⟨qr, 0, none⟩) n n, .slice (some ⟨ql, 0, none⟩) n n] 83 (0, 0)) := by
      have hFl := lt_blk HX.out.1.fm.blk
      rw [k2.block F (by simp; omega) (HX.out.1.row.ne_blk HX.out.1.fm.blk (by decide))]
      exact (Only.alloc (fun _ => False) _ _).block F (by simp; omega) id |>.trans hf1.blk
    have y5 := cell_of_blk _ _ _ _ _ hF5 0
    have f5 : W5.frozen? ⟨F, 0, none⟩ = false := by simp [World.frozen?, hF5]
    simp at y5
    have hz1 : ((X.drewN 1).setCell ⟨qs, v, none⟩ (.int .i64 (s.pre.length : Int))).heap.size = X.heap.size := by simp
    rw [hz1] at hrn
    clear hz1
    have HR := Lib.hid hrn
    have HP := Lib.hid hput
    have HM2 := Lib.hid hm2
    have hFw := lt_blk HW0.out.1.fm.blk
    have hnb : ¬ VT F qp qs (.slice A1 s.pre.length c1) w.heap.size := fun e => by
      have h1 := lt_blk HW0.out.1.fm.par
      have h2 := lt_blk HW0.out.1.fm.semi
      rcases e with e | e | e | e
      · omega
      · omega
      · omega
      · have := (HW0.out.1.row.lt e).1; omega
    have hb6 := (hput.2.1.block w.heap.size (by have := HX.out.2.2.2.2; omega) hnb).trans HX.out.2.2.1
    have hg6 := hput.2.gr HX.out.1 HX.out.2.1
    have x0 := cell_of_blk _ _ _ _ _ hb6 0
    have x1 := cell_of_blk _ _ _ _ _ hb6 1
    simp at x0 x1
    have H6 := Lib.hid (And.intro hb6 (And.intro hg6 (And.intro hnb hFw)))
    clear hfx hf1 hr1 hbW hrn k1 k2 k3 hput hsl hF5 y2 y0 hm2 hb6 hg6 hnb hFw
    go_wp2_with (first | (at_builtin; refine Lib.wpList_append_run _ rfl _ _ _ _ rfl _ _ rfl rfl _ _ HR.out ?_) | fail)
    generalize W5.setCell ⟨F, 0, none⟩ (.slice A2 m2 c2') = W6 at *
    clear c2 f2 y3 f5 y5 HR x0 x1
    have hbe := behind_in H6.out.2.1 v l HM.out.2.2.2.1 (by have := HBN.out.2.2 v l HM.out.2.2.2.1; omega)
    refine hbe.mono ?_
    rintro e W7 ⟨v3, rfl, ho7, hb7⟩
    have hr7 := RowAt.of_own ho7
    obtain ⟨A3, c3, rfl, _, _, _⟩ := rowAt_slice hr7
    simp only [List.length_map] at hr7
    rw [show (l.map iv).length = l.length from List.length_map _]
    have hv7 := HP.out.1.later hb7
    have hs7 := HP.out.2.trans (VStp.below (F := F) (qp := qp) (qs := qs) (.slice A2 m2 c2') hb7)
    have hlm : l.length ≤ maxLen := (rowAt_slice hr7).elim fun A h => h.elim fun c h => by have := h.2.1; have := h.2.2.1; simp only [List.length_map] at *; omega
    have H7 := Lib.hid (And.intro hv7 (And.intro hs7 (And.intro hr7 ((hb7.block _ (lt_blk H6.out.1)).trans H6.out.1))))
    have HZ := Lib.hid (And.intro hb7.size HP.out.2.1.size)
    clear hbe ho7 hb7 hr7 hv7 hs7
    unfold maxLen at hlm
    go_wp2_with fail
    go_loopw [33] (fun i wr => ∃ j : Nat, i = .int .i64 (j : Int) ∧ Hid (j ≤ l.length ∧ ∃ vv par' semi', VW wr base F n qp qs qr ql root label S (visL (nb b) k s.pre.length (l.take j) (s.push v q)) vv par' semi' ∧ VStp F qp qs W7 (.slice A2 m2 c2') wr vv ∧ Mid (nb b) n v q s (visL (nb b) k s.pre.length (l.take j) (s.push v q)))) (fun i _ => l.length - (intOf i).toNat)
    case atStart => exact ⟨0, rfl, Lib.hid ⟨Nat.zero_le _, _, _, _, by rw [List.take_zero, visL_nil]; exact H7.out.1, VStp.refl _ _ _ _ _, by rw [List.take_zero, visL_nil]; exact HM.out.1⟩⟩
    case round =>
      obtain ⟨j, rfl, HI⟩ := hrel
      obtain ⟨hj0, vv, par', semi', hvw, hst, hmid⟩ := HI.out
      clear HI
      have hnb7 : ∀ g, W6.heap.size ≤ g ∨ g = w.heap.size → ¬ VT F qp qs (.slice A2 m2 c2') g := fun g hg e => by
        have h1 := lt_blk HP.out.1.fm.par
        have h2 := lt_blk HP.out.1.fm.semi
        have h3 := lt_blk HP.out.1.fm.blk
        have h4 := lt_blk HW0.out.1.fm.par
        have h5 := lt_blk HW0.out.1.fm.semi
        have h6 := H6.out.2.2.2
        have h7 := HX.out.2.2.2.2
        rcases e with e | e | e | e
        · omega
        · omega
        · omega
        · have h8 := (HP.out.1.row.lt e).1
          rcases hg with hg | hg
          · omega
          · rcases HP.out.2.2 with h9 | ⟨g', h9, h10⟩
            · rw [h9] at e
              have := (HW0.out.1.row.lt e).1
              omega
            · rw [h9] at e; injection e with e; omega
      have hbx := (hst.1.block _ (lt_blk H7.out.2.2.2) (hnb7 _ (.inr rfl))).trans H7.out.2.2.2
      have hrw := H7.out.2.2.1.only hst.1 (fun g hg => hnb7 g (.inl (H7.out.2.2.1.lt hg).2))
      by_cases hj : j < l.length
      · obtain ⟨x, hx⟩ : ∃ x, l[j]? = some x := ⟨_, List.getElem?_eq_getElem hj⟩
        obtain ⟨g0, o0, rfl⟩ : ∃ g o, A3 = some ⟨g, o, none⟩ := by
          rcases hrw with ⟨h1, h2⟩ | ⟨g, o, cap, cur, h1, _⟩
          · have : l = [] := by simpa using h2
            rw [this] at hj; simp at hj
          · injection h1 with h1; exact ⟨g, o, h1⟩
        have hc := hrw.cell j (iv x) (by rw [List.getElem?_map, hx]; rfl)
        unfold iv at hc
        have hxl : x ∈ nb b v := by rw [HM.out.2.2.2.2.1]; exact List.mem_of_getElem? hx
        have hxn : x < n := HM.out.2.2.2.2.2 v x hxl
        have hsn : visL (nb b) k s.pre.length (l.take (j + 1)) (s.push v q) = if x ∈ (visL (nb b) k s.pre.length (l.take j) (s.push v q)).pre then visL (nb b) k s.pre.length (l.take j) (s.push v q) else vis (nb b) k x s.pre.length (visL (nb b) k s.pre.length (l.take j) (s.push v q)) := by
          rw [take_snoc' l j x hx, visL_snoc]
        have HS := Lib.hid hsn
        clear hsn
        generalize visL (nb b) k s.pre.length (l.take j) (s.push v q) = aj at *
        have pp1 : ((j : Int) < (l.length : Int)) = True := eq_true (by omega)
        have j0 : 0 ≤ (j : Int) := by omega
        have j1 : (j : Int) < (l.length : Int) := by omega
        have i3 : 0 ≤ (x : Int) := by omega
        have i4 : (x : Int) < (n : Int) := by omega
        have z2 := hvw.fm.cell.2.2.1
        by_cases hm : x ∈ aj.pre
        · obtain ⟨t, ht, hte⟩ := List.getElem_of_mem hm
          have hs := hvw.fm.semi.cell (hvw.vm.met t x (by rw [List.getElem?_eq_getElem ht, hte]))
          have t0 : ¬ ((t : Int) < 0) := by omega
          have HE := Lib.hid (And.intro hvw (And.intro hst hmid))
          have HMM := Lib.hid hm
          clear hvw hst hmid hbx hrw hx hxl hm ht hte hnb7
          go_wp2_with fail
          go_roundw
          case rel => exact ⟨j + 1, by go_num, Lib.hid ⟨by omega, vv, par', semi', by rw [HS.out, if_pos HMM.out]; exact HE.out.1, HE.out.2.1, by rw [HS.out, if_pos HMM.out]; exact HE.out.2.2⟩⟩
          case measure => simp [intOf]; omega
        · have hs := hvw.fm.semi.cell (hvw.vm.un x hxn hm)
          have z1 := hvw.fm.cell.2.1
          obtain ⟨y, hy⟩ : ∃ y, par'[x]? = some y := ⟨_, List.getElem?_eq_getElem (by rw [hvw.vm.lp]; exact hxn)⟩
          have hp0 := hvw.fm.par.cell hy
          have fp0 := hvw.fm.par.frozen x
          have hun := hvw.under hm (v : Int)
          have hgr : Gr wr base (.agg #[.slice (some ⟨q1, 0, none⟩) n n, .slice (some ⟨p1, 0, none⟩) n n]) b a S := (H7.out.2.1.trans hst).gr HX.out.1 HX.out.2.1
          have hgr2 := hun.2.gr hvw hgr
          have hbx2 : (wr.setCell ⟨qp, x, none⟩ (.int .i64 v)).heap[w.heap.size]? = _ := (((Only.setCell wr ⟨qp, x, none⟩ (.int .i64 v)).block w.heap.size (lt_blk hbx) (fun e => by have h1 := lt_blk HW0.out.1.fm.par; have e : w.heap.size = qp := e; omega))).trans hbx
          have x0 := cell_of_blk _ _ _ _ _ hbx2 0
          have x1 := cell_of_blk _ _ _ _ _ hbx2 1
          simp at x0 x1
          have hbs : base ≤ (wr.setCell ⟨qp, x, none⟩ (.int .i64 v)).heap.size := by
            have h1 := HW0.out.2.2
            have h2 := lt_blk hbx2
            omega
          have hpar : (par'.set x (v : Int))[x]? = some (v : Int) := List.getElem?_set_self (List.getElem?_eq_some_iff.1 hy).1
          have hIH := IH.out x s.pre.length aj _ vv _ semi' hun.1 hgr2 hmid.inv hxn hm (by have := hmid.ext.len; simp [VSt.push] at this; omega) (hmid.child hxl) (fun _ => ⟨v, hmid.ext.pre (by simp [VSt.push]), hpar⟩) hbs
          have hnx := hmid.next HM.out.2.2.2.2.2 hxl hm (by omega)
          have HE := Lib.hid (And.intro hst (And.intro hun.2 hnx))
          have HIH := Lib.hid hIH
          have HMM := Lib.hid hm
          clear hvw hst hmid hbx hrw hx hxl hm hnb7 hun hgr hgr2 hbx2 hbs hpar hIH hnx hy
          go_wp2_with fail
          clear x0 x1 hs z1 z2 hp0 fp0 hc
          refine HIH.out.mono ?_
          rintro e wz ⟨rfl, vz, parz, semiz, hz1, hz2⟩
          have HZ2 := Lib.hid (And.intro hz1 (HE.out.1.trans (HE.out.2.1.trans hz2)))
          clear hz1 hz2
          go_wp2_with fail
          go_roundw
          case rel => exact ⟨j + 1, by go_num, Lib.hid ⟨by omega, vz, parz, semiz, by rw [HS.out, if_neg HMM.out]; exact HZ2.out.1, HZ2.out.2, by rw [HS.out, if_neg HMM.out]; exact HE.out.2.2⟩⟩
          case measure => simp [intOf]; omega
      · obtain rfl : j = l.length := by omega
        have pp1 : ((l.length : Int) < (l.length : Int)) = False := eq_false (by omega)
        rw [List.take_length] at hvw
        have HE := Lib.hid (And.intro hvw hst)
        clear hvw hst hmid hbx hrw hnb7
        go_wp2_with fail
        go_end0
        exact ⟨rfl, vv, par', semi', by rw [vis_succ, HM.out.2.2.2.2.1]; exact HE.out.1, (VStp.below _ HX.out.2.2.2.1).trans (H7.out.2.1.trans HE.out.2)⟩
end LT
end Go.Proofs.Ytnkbbjeepdjamaa
