/- dom.Of: of a graph the nearest ones through which each way goes. Conditions: few places. -/
import Derived.Test.YtnkbbjeepdjamaaDOfM
import Derived.Deep.Cut
import Derived.Deep.CutRange
namespace Go.Proofs.Ytnkbbjeepdjamaa
open Go.RowKit
/-- The first round's state at number i. -/
def R1 (W : World) (base n q1 p1 : Nat) (b a : List (List Nat)) (S : Nat → Prop) (F : Nat) (vv : Value) (qp qs qr ql qu qk : Nat) (s : List Nat) (par : List Int) (A : Nat → Nat → Prop) (sd p : Nat → Nat) (i : Nat) (X : World) : Prop :=
  ∃ semi root label up ks bk, OF W base n q1 p1 b a S F vv qp qs qr ql qu qk s par semi root label up ks bk X ∧ LT.Semi s sd n i i semi ∧ LT.Forest s A sd (i + 1) root label ∧ LT.Buck s A sd p n i i bk up
/-- What a half-dominator's region reads. -/
def PS (F qs n wv : Nat) (c : Int) (X : World) : Prop := X.cell? ⟨F, 2, none⟩ = some (.slice (some ⟨qs, 0, none⟩) n n) ∧ X.cell? ⟨qs, wv, none⟩ = some (.int .i64 c) ∧ X.frozen? ⟨qs, wv, none⟩ = false ∧ Hid (F < X.heap.size ∧ qs < X.heap.size)
theorem PS.of {w : World} {F n : Nat} {vv : Value} {qp qs qr ql : Nat} {par semi root label : List Int} {wv : Nat} {c : Int} (h : FM w F n vv qp qs qr ql par semi root label) (hc : semi[wv]? = some c) : PS F qs n wv c w :=
  ⟨h.cell.2.2.1, h.semi.cell hc, h.semi.frozen wv, Lib.hid ⟨lt_blk h.blk, lt_blk h.semi⟩⟩
set_option maxRecDepth 100000 in
set_option maxHeartbeats 16000000 in
theorem of_calls {n : Nat} (h1 : 1 ≤ n) (hn : n ≤ 1048575) {base : Nat} {gv : Value} {b a : List (List Nat)} {S : Nat → Prop} (w : World) (hg : Gr w base gv b a S) (hbn : b.length = n) (hf : Few b) (ht : Twin n b a)
    (hbl : ∀ (i : Nat) (l : List Nat), b[i]? = some l → l.length ≤ 1048575) (hal : ∀ (i : Nat) (l : List Nat), a[i]? = some l → l.length ≤ 1048575) (hbase : base ≤ w.heap.size) :
    Calls Try.prog 19 #[gv] w fun e w' => ∃ qu qb qd vs up deep, e = .returned (treeV qu qb qd n) ∧ TR w' w.heap.size n qu qb qd vs up deep (belows up n n) ∧ LT.DTree (nb b) n up deep ∧ Below w.heap.size w w' := by
  obtain ⟨q1, p1, rfl⟩ := hg.form
  have hold : ∀ g, S g → g < w.heap.size := fun g hs => (hg.lt hs).1
  have hlt : ∀ i, ∀ x ∈ nb b i, x < n := fun i x hx => by
    unfold nb at hx
    rw [List.getD_eq_getElem?_getD] at hx
    cases hbi : b[i]? with
    | none => rw [hbi] at hx; simp at hx
    | some l => rw [hbi] at hx; have := hf.lt i l hbi x hx; omega
  have hnum := LT.nums0 (nb b) n (by omega) hlt
  have HG := Lib.hid (And.intro hg (And.intro hold (And.intro hbn (And.intro hf (And.intro ht (And.intro hbl (And.intro hal (And.intro hbase (And.intro hnum hlt)))))))))
  have hmk := mk_rows n (by omega)
  rw [hbn]
  clear hg hold hbn hf ht hbl hal hbase hnum hlt
  go_enter Try.func19, Try.ntmps19
  go_wp2_with fail
  generalize hX : World.alloc (World.alloc w _) _ = X
  have hx0 : X.heap[w.heap.size]? = some (.cells #[.slice (some ⟨q1, 0, none⟩) n n, .slice (some ⟨p1, 0, none⟩) n n] 28 (0, 0)) := by rw [← hX]; exact alloc_oldD (at0 _ _)
  have hx1 : X.heap[w.heap.size + 1]? = some (.cells #[.slice none 0 0, .slice none 0 0, .slice none 0 0] 33 (0, 0)) := by rw [← hX]; exact at1 _ _ _
  have hbx : Below w.heap.size w X := hX ▸ ((Below.refl _ _).alloc (Nat.le_refl _) _).alloc (by simp) _
  have HX := Lib.hid (And.intro hx0 (And.intro hx1 hbx))
  clear hX hx0 hx1 hbx
  refine (len_calls q1 n p1 n n n _).mono ?_
  rintro e W1 ⟨rfl, hb⟩
  have H1 := Lib.hid (And.intro ((hb.block _ (lt_blk HX.out.1)).trans HX.out.1) (And.intro ((hb.block _ (lt_blk HX.out.2.1)).trans HX.out.2.1) (below_two HX.out.2.2 hb)))
  clear hb HX
  go_wp2_with fail
  obtain ⟨N, hN⟩ : ∃ N, W1.heap.size = N := ⟨_, rfl⟩
  generalize hY : World.alloc W1 _ = Y0
  obtain ⟨hy, hby, hyz⟩ := boxed hY hN
  have hRN : w.heap.size + 1 < N := hN ▸ lt_blk H1.out.2.1
  have K0 := Lib.hid (And.intro (below_two H1.out.2.2 hby) (And.intro ((hby.block _ (lt_blk H1.out.1)).trans H1.out.1) (And.intro ((hby.block _ (lt_blk H1.out.2.1)).trans H1.out.2.1) (And.intro hy hRN))))
  rw [hN]
  clear hY hy hby hyz hN H1
  refine (fill_calls n h1 hn N Y0 (cell_of_blk _ _ _ _ _ K0.out.2.2.2.1 0)).mono ?_
  rintro e Y1 ⟨qp, rfl, hi, hz, hb⟩
  have K1 := Lib.hid (And.intro (below_two K0.out.1 hb) (And.intro ((hb.block _ (lt_blk K0.out.2.1)).trans K0.out.2.1) (And.intro ((hb.block _ (lt_blk K0.out.2.2.1)).trans K0.out.2.2.1) (And.intro ((hb.block _ (lt_blk K0.out.2.2.2.1)).trans K0.out.2.2.2.1) K0.out.2.2.2.2))))
  have I1 := Lib.hid (And.intro hi True.intro)
  have Z1 := Lib.hid (show N < qp from by have := lt_blk K0.out.2.2.2.1; omega)
  clear hi hz hb K0
  go_wp2_with fail
  refine (fill_calls n h1 hn N Y1 (cell_of_blk _ _ _ _ _ K1.out.2.2.2.1 0)).mono ?_
  rintro e Y2 ⟨qs, rfl, hi, hz, hb⟩
  have K2 := Lib.hid (And.intro (below_two K1.out.1 hb) (And.intro ((hb.block _ (lt_blk K1.out.2.1)).trans K1.out.2.1) (And.intro ((hb.block _ (lt_blk K1.out.2.2.1)).trans K1.out.2.2.1) (And.intro ((hb.block _ (lt_blk K1.out.2.2.2.1)).trans K1.out.2.2.2.1) K1.out.2.2.2.2))))
  have I2 := Lib.hid (And.intro hi (And.intro (I1.out.1.later hb) True.intro))
  have Z2 := Lib.hid (show qp < qs ∧ N < qp from by have h5 := Z1.out; have := lt_blk I1.out.1; omega)
  clear hi hz hb K1 I1 Z1
  go_wp2_with fail
  refine (fill_calls n h1 hn N Y2 (cell_of_blk _ _ _ _ _ K2.out.2.2.2.1 0)).mono ?_
  rintro e Y3 ⟨qr, rfl, hi, hz, hb⟩
  have K3 := Lib.hid (And.intro (below_two K2.out.1 hb) (And.intro ((hb.block _ (lt_blk K2.out.2.1)).trans K2.out.2.1) (And.intro ((hb.block _ (lt_blk K2.out.2.2.1)).trans K2.out.2.2.1) (And.intro ((hb.block _ (lt_blk K2.out.2.2.2.1)).trans K2.out.2.2.2.1) K2.out.2.2.2.2))))
  have I3 := Lib.hid (And.intro hi (And.intro (I2.out.1.later hb) (And.intro (I2.out.2.1.later hb) True.intro)))
  have Z3 := Lib.hid (show qs < qr ∧ qp < qs ∧ N < qp from by have h5 := Z2.out; have := lt_blk I2.out.1; omega)
  clear hi hz hb K2 I2 Z2
  go_wp2_with fail
  refine (fill_calls n h1 hn N Y3 (cell_of_blk _ _ _ _ _ K3.out.2.2.2.1 0)).mono ?_
  rintro e Y4 ⟨ql, rfl, hi, hz, hb⟩
  have K4 := Lib.hid (And.intro (below_two K3.out.1 hb) (And.intro ((hb.block _ (lt_blk K3.out.2.1)).trans K3.out.2.1) (And.intro ((hb.block _ (lt_blk K3.out.2.2.1)).trans K3.out.2.2.1) (And.intro ((hb.block _ (lt_blk K3.out.2.2.2.1)).trans K3.out.2.2.2.1) K3.out.2.2.2.2))))
  have I4 := Lib.hid (And.intro hi (And.intro (I3.out.1.later hb) (And.intro (I3.out.2.1.later hb) (And.intro (I3.out.2.2.1.later hb) True.intro))))
  have Z4 := Lib.hid (show qr < ql ∧ qs < qr ∧ qp < qs ∧ N < qp from by have h5 := Z3.out; have := lt_blk I3.out.1; omega)
  clear hi hz hb K3 I3 Z3
  go_wp2_with fail
  generalize hX : World.alloc Y4 _ = Y5
  obtain ⟨hx, hbx, hz⟩ := boxed hX rfl
  obtain ⟨F, hF⟩ : ∃ F, Y4.heap.size = F := ⟨_, rfl⟩
  have hlF : ql < F := hF ▸ lt_blk I4.out.1
  have hfm : FM Y5 F n (.slice none 0 0) qp qs qr ql (List.replicate n (-1)) (List.replicate n (-1)) (List.replicate n (-1)) (List.replicate n (-1)) :=
    ⟨hF ▸ hx, I4.out.2.2.2.1.later hbx, I4.out.2.2.1.later hbx, I4.out.2.1.later hbx, I4.out.1.later hbx, by have := Z4.out; omega⟩
  have K5 := Lib.hid (And.intro (below_two K4.out.1 hbx) (And.intro ((hbx.block _ (lt_blk K4.out.2.1)).trans K4.out.2.1) (And.intro ((hbx.block _ (lt_blk K4.out.2.2.1)).trans K4.out.2.2.1) (And.intro ((hbx.block _ (lt_blk K4.out.2.2.2.1)).trans K4.out.2.2.2.1) (And.intro hfm hlF)))))
  rw [hF]
  clear hX hx hbx hz hF hlF hfm K4 I4
  refine (fill_calls n h1 hn N Y5 (cell_of_blk _ _ _ _ _ K5.out.2.2.2.1 0)).mono ?_
  rintro e Y6 ⟨qu, rfl, hi, hz, hb⟩
  have hFu : F < qu := by have := lt_blk K5.out.2.2.2.2.1.blk; omega
  have K6 := Lib.hid (And.intro (below_two K5.out.1 hb) (And.intro ((hb.block _ (lt_blk K5.out.2.1)).trans K5.out.2.1) (And.intro ((hb.block _ (lt_blk K5.out.2.2.1)).trans K5.out.2.2.1) (And.intro ((hb.block _ (lt_blk K5.out.2.2.2.1)).trans K5.out.2.2.2.1) (And.intro (K5.out.2.2.2.2.1.later hb) (And.intro K5.out.2.2.2.2.2 (And.intro hi hFu)))))))
  have x0 := cell_of_blk _ _ _ _ _ K6.out.2.2.2.1 0
  have x1 := cell_of_blk _ _ _ _ _ K6.out.2.1 0
  have x2 := cell_of_blk _ _ _ _ _ K6.out.2.1 1
  have hnz : (0 : Int) < (n : Int) := by omega
  have hNl := lt_blk K6.out.2.2.2.1
  have hBl := lt_blk K6.out.2.1
  simp at x0 x1 x2
  clear hi hz hb K5
  go_wp2_with fail
  clear x0 x1 x2
  generalize hX : World.alloc Y6 _ = Y7
  obtain ⟨hx, hbx, hz⟩ := boxed hX rfl
  obtain ⟨qk, hK⟩ : ∃ F, Y6.heap.size = F := ⟨_, rfl⟩
  have huk : qu < qk := hK ▸ lt_blk K6.out.2.2.2.2.2.2.1
  have hmat : Mat Y7 (w.heap.size + 2) qk (List.replicate n (.slice none 0 0)) (List.replicate n []) := Mat.new (hK ▸ hx) (by have := Z4.out; have := K6.out.2.2.2.2.2.1; omega)
  have hgr := HG.out.1.later (below_two K6.out.1 hbx)
  have hvw : LT.VW Y7 base F n qp qs qr ql (List.replicate n (-1)) (List.replicate n (-1)) S ⟨[], []⟩ (.slice none 0 0) (List.replicate n (-1)) (List.replicate n (-1)) := by
    have hS := HG.out.2.1
    have hz4 := Z4.out
    have hlF := K6.out.2.2.2.2.2.1
    refine ⟨K6.out.2.2.2.2.1.later hbx, ⟨by simp, by simp, fun j v hv => by simp at hv, fun v hv _ => by simp [hv], fun j v _ hv => by simp at hv⟩, RowAt.nil _ _ _, fun g hg => by simp [Value.ownBlock] at hg, fun e => ?_, fun e => ?_, fun e => ?_⟩
    · have := hS _ e; omega
    · have := hS _ e; omega
    · have := hS _ e; omega
  have hgr' := hgr
  rw [HG.out.2.2.1] at hgr'
  have hbY : base ≤ Y7.heap.size := by have := HG.out.2.2.2.2.2.2.2.1; have := (below_two K6.out.1 hbx).size; omega
  have hvis := LT.visit_calls hn HG.out.2.2.1 (fun i l hi x hx => by have := HG.out.2.2.2.1.lt i l hi x hx; have := HG.out.2.2.1; omega) HG.out.2.2.2.2.2.1 (by simp) (by simp) n 0 0 ⟨[], []⟩ Y7 (.slice none 0 0) _ _ hvw hgr' ⟨rfl, by simp, by simp, by simp⟩ (by omega) (by simp) (by simp) (fun h => by simp at h) (fun h => by simp at h) hbY
  have K7 := Lib.hid (And.intro (below_two K6.out.1 hbx) (And.intro ((hbx.block _ (lt_blk K6.out.2.1)).trans K6.out.2.1) (And.intro ((hbx.block _ (lt_blk K6.out.2.2.1)).trans K6.out.2.2.1) (And.intro ((hbx.block _ (lt_blk K6.out.2.2.2.1)).trans K6.out.2.2.2.1) (And.intro (K6.out.2.2.2.2.2.2.1.later hbx) (And.intro hmat (And.intro hgr' (And.intro K6.out.2.2.2.2.2.1 (And.intro K6.out.2.2.2.2.2.2.2 huk)))))))))
  have HV := Lib.hid hvis
  rw [hK]
  clear hX hx hbx hz hK huk hmat hgr hgr' hvw hvis hbY K6
  refine HV.out.mono ?_
  rintro e Y8 ⟨rfl, vv, par, semi, hvw, hst⟩
  have hpre : LT.vis (nb b) n 0 0 ⟨[], []⟩ = LT.vis0 (nb b) n := rfl
  rw [hpre] at hvw
  obtain ⟨st, hst0⟩ : ∃ st, LT.vis0 (nb b) n = st := ⟨_, rfl⟩
  have hnum := HG.out.2.2.2.2.2.2.2.2.1
  rw [hst0] at hvw hnum
  have hnv : ∀ k, k < Y7.heap.size → k ≠ F → k ≠ qp → k ≠ qs → ¬ LT.VT F qp qs (.slice none 0 0) k := fun k hk h1 h2 h3 e => by
    rcases e with e | e | e | e
    · exact h1 e
    · exact h2 e
    · exact h3 e
    · simp [Value.ownBlock] at e
  have z4 := Z4.out
  have zF := K7.out.2.2.2.2.2.2.2.1
  have zu := K7.out.2.2.2.2.2.2.2.2.1
  have zk := K7.out.2.2.2.2.2.2.2.2.2
  have lk := lt_blk K7.out.2.2.2.2.2.1.blk
  have hvn : ∀ g, vv.ownBlock = some g → Y7.heap.size ≤ g := fun g hg => by
    rcases hst.2 with e | ⟨g', e, h⟩
    · rw [e] at hg; simp [Value.ownBlock] at hg
    · rw [e] at hg; injection hg with hg; omega
  have hof : OF w base n q1 p1 b a S F vv qp qs qr ql qu qk st.pre par semi (List.replicate n (-1)) (List.replicate n (-1)) (List.replicate n (-1)) (List.replicate n (.slice none 0 0)) (List.replicate n []) Y8 := by
    have hnm : ∀ g, MatB qk (List.replicate n (.slice none 0 0)) g → ¬ LT.VT F qp qs (.slice none 0 0) g := fun g hg => by have e := matB_new hg; exact hnv g (by omega) (by omega) (by omega) (by omega)
    refine ⟨K7.out.2.2.2.2.2.2.1.only hst.1 (fun g hg => by have := HG.out.2.1 g hg; have := lt_blk K7.out.2.1; exact hnv g (by omega) (by omega) (by omega) (by omega)), (hst.1.block _ (lt_blk K7.out.2.1) (hnv _ (lt_blk K7.out.2.1) (by omega) (by omega) (by omega))).trans K7.out.2.1, (hst.1.block _ (lt_blk K7.out.2.2.1) (hnv _ (lt_blk K7.out.2.2.1) (by omega) (by omega) (by omega))).trans K7.out.2.2.1, hvw.fm, hvw.row, K7.out.2.2.2.2.1.only hst.1 (hnv _ (lt_blk K7.out.2.2.2.2.1) (by omega) (by omega) (by omega)), K7.out.2.2.2.2.2.1.only hst.1 hnm, by omega, fun g hg => ?_, fun g hg => ?_, by omega, HG.out.2.1, K7.out.1.trans (hst.1.below K7.out.1.size (fun k hk e => ?_))⟩
    · have := hvn g hg; omega
    · have e := matB_new hg; exact ⟨by omega, by omega, by omega, by omega, by omega, fun e2 => by have := hvn g e2; omega⟩
    · rcases e with e | e | e | e
      · omega
      · omega
      · omega
      · simp [Value.ownBlock] at e
  have H8 := Lib.hid (And.intro hof (And.intro hvw.vm (And.intro hnum ((hst.1.block _ (lt_blk K7.out.2.2.2.1) (hnv _ (lt_blk K7.out.2.2.2.1) (by omega) (by omega) (by omega))).trans K7.out.2.2.2.1))))
  have x0 := cell_of_blk _ _ _ _ _ H8.out.2.2.2 0
  simp at x0
  clear hof hvw hnum hst hpre hst0 hnv z4 zF zu zk lk hvn K7 HV Z4 hmk hNl hBl
  go_wp2_with fail
  clear x0
  go_loopw [42] (fun i wr => ∃ k : Nat, i = .int .i64 (k : Int) ∧ Hid (k ≤ n ∧ ∃ label, OF w base n q1 p1 b a S F vv qp qs qr ql qu qk st.pre par semi (List.replicate n (-1)) label (List.replicate n (-1)) (List.replicate n (.slice none 0 0)) (List.replicate n []) wr ∧ label.length = n ∧ ∀ v, v < k → label[v]? = some (v : Int))) (fun i _ => n - (intOf i).toNat)
  case atStart => exact ⟨0, rfl, Lib.hid ⟨Nat.zero_le _, _, H8.out.1, by simp, fun v hv => by omega⟩⟩
  case round =>
    obtain ⟨k, rfl, HI⟩ := hrel
    obtain ⟨hk0, label, hof, hll, hlv⟩ := HI.out
    clear HI
    by_cases hk : k < n
    · have pp1 : ((k : Int) < (n : Int)) = True := eq_true (by omega)
      have x4 := hof.fm.cell.2.2.2.2
      obtain ⟨y, hy⟩ : ∃ y, label[k]? = some y := ⟨_, List.getElem?_eq_getElem (by omega)⟩
      have cy := hof.fm.label.cell hy
      have fy := hof.fm.label.frozen k
      have hset := hof.setL k (k : Int)
      have i0 : 0 ≤ (k : Int) := by omega
      have i1 : (k : Int) < (n : Int) := by omega
      have HE := Lib.hid (And.intro hset (And.intro hll hlv))
      clear hof hll hlv hset hy
      go_wp2_with fail
      go_roundw
      case rel =>
        refine ⟨k + 1, by go_num, Lib.hid ⟨by omega, _, HE.out.1, by rw [List.length_set]; exact HE.out.2.1, fun v hv => ?_⟩⟩
        by_cases e : k = v
        · subst e; rw [List.getElem?_set_self (by rw [HE.out.2.1]; exact hk)]
        · rw [List.getElem?_set_ne e]; exact HE.out.2.2 v (by omega)
      case measure => simp [intOf]; omega
    · obtain rfl : k = n := by omega
      have pp1 : ((k : Int) < (k : Int)) = False := eq_false (by omega)
      have hD := H8.out.2.2.1.dfs
      have hnd := H8.out.2.2.1.inv.nd
      obtain ⟨sd, hsd⟩ := LT.sd_ex hD
      obtain ⟨s, hs⟩ : ∃ s, st.pre = s := ⟨_, rfl⟩
      obtain ⟨A, hA⟩ : ∃ A, LT.Abv st.pp = A := ⟨_, rfl⟩
      obtain ⟨p, hp⟩ : ∃ p, (fun j => st.pp.getD j 0) = p := ⟨_, rfl⟩
      obtain ⟨E, hE⟩ : ∃ E, LT.En (nb b) st = E := ⟨_, rfl⟩
      have hsk : ∀ v ∈ s, v < k := fun v hv => H8.out.2.2.1.inv.lt v (by rw [hs]; exact hv)
      have hN1 : 0 < s.length := by have := (List.getElem?_eq_some_iff.1 H8.out.2.2.1.zero).1; rw [hs] at this; exact this
      have hvm := H8.out.2.1
      have hN1s : 0 < st.pre.length := by rw [hs]; exact hN1
      have hR1 : R1 w base k q1 p1 b a S F vv qp qs qr ql qu qk s par A sd p (s.length - 1) wr := by
        rw [← hs]
        refine ⟨semi, _, label, _, _, _, hof, ⟨fun j v hv => ?_, hvm.un, hvm.ls⟩, ⟨fun j v hj hv => ⟨?_, ?_⟩, fun j v hj hv => ?_⟩, LT.Buck.start hN1s⟩
        · have hj := (List.getElem?_eq_some_iff.1 hv).1
          rw [hvm.met j v hv]
          unfold LT.sv
          rw [if_neg (by omega)]
          split
          · congr 1; omega
          · rfl
        · have := hsk v (by rw [← hs]; exact List.mem_of_getElem? hv)
          simp [this]
        · exact hlv v (hsk v (by rw [← hs]; exact List.mem_of_getElem? hv))
        · have := (List.getElem?_eq_some_iff.1 hv).1; omega
      have hpar : ∀ j v, 0 < j → s[j]? = some v → ∃ u : Nat, s[p j]? = some u ∧ par[v]? = some (u : Int) := fun j v h0 hv => by
        rw [← hs] at hv ⊢
        obtain ⟨q, u, h2, h3, h4⟩ := hvm.par j v h0 hv
        refine ⟨u, ?_, h4⟩
        rw [← hp]
        show st.pre[st.pp.getD j 0]? = some u
        rw [List.getD_eq_getElem?_getD, h2]; exact h3
      have hNums := H8.out.2.2.1
      rw [hs, hA, hp, hE] at hD
      rw [hs] at hnd
      rw [hE, hs] at hsd
      have HP := Lib.hid (And.intro hD (And.intro hnd (And.intro hsd (And.intro hsk (And.intro hpar (And.intro hNums (And.intro hs (And.intro hA (And.intro hE hp)))))))))
      have HR1 := Lib.hid hR1
      have HN1 := Lib.hid hN1
      rw [hs] at hof
      have hrow := hof.row
      obtain ⟨Av, cv, rfl, _, _, _⟩ := rowAt_slice hrow
      have hsl : (s.map iv).length = s.length := List.length_map _
      rw [hsl] at hof HR1
      have x0 := hof.fm.cell.1
      have hls : s.length ≤ k := LT.room hnd hsk
      have hw1 : IntKind.i64.wrap ((s.length : Int) - 1) = ((s.length - 1 : Nat) : Int) := by rw [IntKind.wrap_i64]; omega
      clear hof hll hlv hD hnd hsd hsk hN1 hN1s hvm hR1 hpar hNums hs hA hp hE hrow H8 pp1 hsl
      have pp1 : ((k : Int) < (k : Int)) = False := eq_false (by omega)
      go_wp2_with fail
      clear x0 hw1 hk hk0 hnz
      go_loopw [9] (fun v wr => ∃ i : Nat, v = .int .i64 (i : Int) ∧ Hid (i < s.length ∧ R1 w base k q1 p1 b a S F (.slice Av s.length cv) qp qs qr ql qu qk s par A sd p i wr)) (fun v _ => (intOf v).toNat)
      case atStart => exact ⟨s.length - 1, rfl, Lib.hid ⟨by have := HN1.out; omega, HR1.out⟩⟩
      case round =>
        clear HR1
        obtain ⟨i, rfl, HI⟩ := hrel
        obtain ⟨hil, semi, root, lab, up, ks, bk, hof, hse, hfo, hbk⟩ := HI.out
        clear HI
        by_cases hi : 0 < i
        · obtain ⟨wv, hwv⟩ : ∃ x, s[i]? = some x := ⟨_, List.getElem?_eq_getElem hil⟩
          have hwk : wv < k := HP.out.2.2.2.1 wv (List.mem_of_getElem? hwv)
          obtain ⟨g0, o0, rfl⟩ : ∃ g o, Av = some ⟨g, o, none⟩ := by
            rcases hof.row with ⟨h1, h2⟩ | ⟨g, o, cap, cur, h1, _⟩
            · have : s = [] := by simpa using h2
              rw [this] at hil; simp at hil
            · injection h1 with h1; exact ⟨g, o, h1⟩
          have hc := hof.row.cell i (iv wv) (by rw [List.getElem?_map, hwv]; rfl)
          unfold iv at hc
          have x0 := hof.fm.cell.1
          have b0 := cell_of_blk _ _ _ _ _ hof.bx 0
          have b1 := cell_of_blk _ _ _ _ _ hof.bx 1
          simp at b0 b1
          obtain ⟨l, hal⟩ : ∃ l, a[wv]? = some l := ⟨_, List.getElem?_eq_getElem (by rw [HG.out.2.2.2.2.1.la]; exact hwk)⟩
          have hll := HG.out.2.2.2.2.2.2.1 wv l hal
          have hgn := hof.gr
          have hah := ahead_in hgn wv l hal (by omega)
          have HAH := Lib.hid hah
          have HO := Lib.hid (And.intro hof (And.intro hse (And.intro hfo (And.intro hbk (And.intro hwv hal)))))
          have i0 : 0 ≤ (i : Int) := by omega
          have i1 : (i : Int) < (s.length : Int) := by omega
          have i2 : (0 : Int) < (i : Int) := by omega
          have w0 : 0 ≤ (wv : Int) := by omega
          have w1 : (wv : Int) < (k : Int) := by omega
          have hwi : IntKind.i64.wrap ((i : Int) - 1) = ((i - 1 : Nat) : Int) := by rw [IntKind.wrap_i64]; omega
          clear hof hse hfo hbk hwv hal hgn hah
          go_wp2_with fail
          clear x0 hc b0 b1
          refine HAH.out.mono ?_
          rintro e X1 ⟨v3, rfl, ho7, hb7⟩
          have hr7 := RowAt.of_own ho7
          obtain ⟨A3, c3, rfl, _, _, _⟩ := rowAt_slice hr7
          simp only [List.length_map] at hr7
          rw [show (l.map iv).length = l.length from List.length_map _]
          have HX1 := Lib.hid (And.intro (HO.out.1.later hb7) (And.intro hr7 (below_two HO.out.1.below hb7)))
          have HZ := Lib.hid (And.intro (lt_blk HO.out.1.fm.semi) (And.intro (lt_blk HO.out.1.fm.root) (lt_blk HO.out.1.fm.label)))
          clear ho7 hb7 hr7 HAH
          go_wp2_with fail
          have HST := Lib.hid (show ∃ c semi root lab, OF w base k q1 p1 b a S F (.slice (some ⟨g0, o0, none⟩) s.length cv) qp qs qr ql qu qk s par semi root lab up ks bk X1 ∧ LT.Semi s sd k i c semi ∧ LT.Forest s A sd (i + 1) root lab ∧ LT.Cand s A sd i c (l.take 0) from ⟨i, semi, root, lab, HX1.out.1, HO.out.2.1, HO.out.2.2.1, by rw [List.take_zero]; exact LT.Cand.start HP.out.1 HP.out.2.2.1 hi hil⟩)
          go_loopw [74] (fun v wr2 => ∃ t : Nat, v = .int .i64 (t : Int) ∧ Hid (t ≤ l.length ∧ (∃ c semi root lab, OF w base k q1 p1 b a S F (.slice (some ⟨g0, o0, none⟩) s.length cv) qp qs qr ql qu qk s par semi root lab up ks bk wr2 ∧ LT.Semi s sd k i c semi ∧ LT.Forest s A sd (i + 1) root lab ∧ LT.Cand s A sd i c (l.take t)) ∧ Only (fun g => g = qs ∨ g = qr ∨ g = ql) X1 wr2)) (fun v _ => l.length - (intOf v).toNat)
          case atStart => exact ⟨0, rfl, Lib.hid ⟨Nat.zero_le _, HST.out, Only.refl _ _⟩⟩
          case round =>
            obtain ⟨wo, rfl⟩ : ∃ wo : World, wo = wr := ⟨_, rfl⟩
            clear HST
            obtain ⟨t, rfl, HI⟩ := hrel
            obtain ⟨ht0, ⟨c, semi2, root2, lab2, hof, hse, hfo, hcand⟩, hon⟩ := HI.out
            clear HI
            have hrw := HX1.out.2.1.only hon (fun g hg e => by have := (HX1.out.2.1.lt hg).2; have := HZ.out; omega)
            by_cases ht : t < l.length
            · obtain ⟨v, hv⟩ : ∃ v, l[t]? = some v := ⟨_, List.getElem?_eq_getElem ht⟩
              obtain ⟨g1, o1, rfl⟩ : ∃ g o, A3 = some ⟨g, o, none⟩ := by
                rcases hrw with ⟨h1, h2⟩ | ⟨g, o, cap, cur, h1, _⟩
                · have : l = [] := by simpa using h2
                  rw [this] at ht; simp at ht
                · injection h1 with h1; exact ⟨g, o, h1⟩
              have hc := hrw.cell t (iv v) (by rw [List.getElem?_map, hv]; rfl)
              unfold iv at hc
              have hvm : v ∈ a.getD wv [] := by rw [List.getD_eq_getElem?_getD, HO.out.2.2.2.2.2]; exact List.mem_of_getElem? hv
              have hvm2 := (HG.out.2.2.2.2.1.mem wv v).1 hvm
              have hvk : v < k := hvm2.1
              have pp2 : ((t : Int) < (l.length : Int)) = True := eq_true (by omega)
              have t0 : 0 ≤ (t : Int) := by omega
              have t1 : (t : Int) < (l.length : Int) := by omega
              have v0 : 0 ≤ (v : Int) := by omega
              have v1 : (v : Int) < (k : Int) := by omega
              have x2 := hof.fm.cell.2.2.1
              have hsnoc := take_snoc' l t v hv
              by_cases hm : v ∈ s
              · obtain ⟨j, hjl, hje⟩ := List.getElem_of_mem hm
                have hj : s[j]? = some v := by rw [List.getElem?_eq_getElem hjl, hje]
                have cs := hof.fm.semi.cell (hse.met j v hj)
                have cs0 : (0 : Int) ≤ ((LT.sv sd i c j : Nat) : Int) := by omega
                have hcw : semi2[wv]? = some (c : Int) := by
                  rw [hse.met i wv HO.out.2.2.2.2.1]; simp [LT.sv]
                have hEj : E j i := by
                  rw [← HP.out.2.2.2.2.2.2.2.2.1]
                  exact ⟨v, wv, by rw [HP.out.2.2.2.2.2.2.1]; exact hj, by rw [HP.out.2.2.2.2.2.2.1]; exact HO.out.2.2.2.2.1, hvm2.2⟩
                have hS2 : PS F qs k wv (c : Int) (wo.drewN 1) := PS.of (hof.fm.drewN 1) hcw
                have hev := LT.eval_calls HP.out.1 HP.out.2.1 HP.out.2.2.2.1 (by omega) (semi := semi2) (i0 := i + 1) (fun q y hq hy => by rw [hse.met q y hy]; unfold LT.sv; rw [if_pos (by omega)]) j v (wo.drewN 1) root2 lab2 (hof.fm.drewN 1) hfo hj
                have hcd : ∀ x, ((j < i + 1 ∧ x = v) ∨ (i + 1 ≤ j ∧ ∃ r m, r < i + 1 ∧ LT.Arg A sd r j m ∧ (∀ y, A r y → r ≠ y → A y j → i + 1 ≤ y) ∧ s[m]? = some x)) → ∃ z : Nat, semi2[x]? = some (z : Int) ∧ LT.Cand s A sd i (min c z) (l.take (t + 1)) := by
                  intro x hx
                  rw [hsnoc]
                  rcases hx with ⟨h1, rfl⟩ | ⟨h1, r, m, h2, h3, h4, h5⟩
                  · exact ⟨_, hse.met j x hj, LT.Cand.near HP.out.1 HP.out.2.2.1 HP.out.2.1 hcand hi hj (by omega) hEj⟩
                  · exact ⟨_, hse.met m x h5, LT.Cand.far HP.out.1 HP.out.2.2.1 HP.out.2.1 hcand hi hj (by omega) hEj h2 h3 h4⟩
                have EV := Lib.hid hev
                have CD := Lib.hid hcd
                have HC := Lib.hid hcw
                have HQ := Lib.hid (And.intro hof (And.intro hse (And.intro hon hsnoc)))
                clear hof hse hfo hcand hon hrw hv hvm hvm2 hsnoc hm hjl hje hj hcw hEj hev hcd
                go_wp2_with fail
                refine wp_region_Z (S := (PS F qs k wv (c : Int))) (z := 23) (by kernel_rfl) (by first | exact hS2 | exact hps9) (fun hHeld => ?_)
                refine wpAnyZ_take (i := 0) (oi := { dst := some 86, op := Go.Op.move (Go.Operand.tmp 5), type := 81, pos := "dom.go:74", after := #[], guard := none }) (v := ?_) rfl (by kernel_rfl) (by kernel_rfl) (by kernel_rfl) (by kernel_rfl) (fun _ _ _ h => h) (Or.inl ⟨by rfl, ?_⟩) (by assumption) ?_
                rotate_left 1
                · intro w hSw; (obtain ⟨d0, d1, d2, _⟩ := hSw); go_simp; try with_reducible rfl
                try simp only [Act.put, List.setIfInBounds_toArray, List.set_cons_zero, List.set_cons_succ]
                refine wpAnyZ_take (i := 1) (oi := { dst := some 87, op := Go.Op.nilCheck (Go.Operand.tmp 86), type := 0, pos := "dom.go:74", after := #[{ on := 0, ground := Go.Ground.data }], guard := none }) (v := ?_) rfl (by kernel_rfl) (by kernel_rfl) (by kernel_rfl) (by kernel_rfl) (fun _ _ _ h => h) (Or.inl ⟨by rfl, ?_⟩) (by assumption) ?_
                rotate_left 1
                · intro w hSw; (obtain ⟨d0, d1, d2, _⟩ := hSw); go_simp; try with_reducible rfl
                try simp only [Act.put, List.setIfInBounds_toArray, List.set_cons_zero, List.set_cons_succ]
                refine wpAnyZ_take (i := 2) (oi := { dst := some 88, op := Go.Op.fieldAddr 83 (Go.Operand.tmp 87) 2, type := 0, pos := "dom.go:74", after := #[{ on := 1, ground := Go.Ground.data }], guard := none }) (v := ?_) rfl (by kernel_rfl) (by kernel_rfl) (by kernel_rfl) (by kernel_rfl) (fun _ _ _ h => h) (Or.inl ⟨by rfl, ?_⟩) (by assumption) ?_
                rotate_left 1
                · intro w hSw; (obtain ⟨d0, d1, d2, _⟩ := hSw); go_simp; try with_reducible rfl
                try simp only [Act.put, List.setIfInBounds_toArray, List.set_cons_zero, List.set_cons_succ]
                refine wpAnyZ_take (i := 3) (oi := { dst := some 89, op := Go.Op.load 31 (Go.Operand.tmp 88), type := 31, pos := "dom.go:74", after := #[{ on := 2, ground := Go.Ground.data }], guard := none }) (v := ?_) rfl (by kernel_rfl) (by kernel_rfl) (by kernel_rfl) (by kernel_rfl) (fun _ _ _ h => h) (Or.inl ⟨by rfl, ?_⟩) (by assumption) ?_
                rotate_left 1
                · intro w hSw; (obtain ⟨d0, d1, d2, _⟩ := hSw); go_simp; try with_reducible rfl
                try simp only [Act.put, List.setIfInBounds_toArray, List.set_cons_zero, List.set_cons_succ]
                refine wpAnyZ_take (i := 4) (oi := { dst := some 90, op := Go.Op.move (Go.Operand.tmp 10), type := 3, pos := "dom.go:74", after := #[], guard := none }) (v := ?_) rfl (by kernel_rfl) (by kernel_rfl) (by kernel_rfl) (by kernel_rfl) (fun _ _ _ h => h) (Or.inl ⟨by rfl, ?_⟩) (by assumption) ?_
                rotate_left 1
                · intro w hSw; (obtain ⟨d0, d1, d2, _⟩ := hSw); go_simp; try with_reducible rfl
                try simp only [Act.put, List.setIfInBounds_toArray, List.set_cons_zero, List.set_cons_succ]
                refine wpAnyZ_take (i := 5) (oi := { dst := some 91, op := Go.Op.move (Go.Operand.tmp 5), type := 81, pos := "dom.go:74", after := #[], guard := none }) (v := ?_) rfl (by kernel_rfl) (by kernel_rfl) (by kernel_rfl) (by kernel_rfl) (fun _ _ _ h => h) (Or.inl ⟨by rfl, ?_⟩) (by assumption) ?_
                rotate_left 1
                · intro w hSw; (obtain ⟨d0, d1, d2, _⟩ := hSw); go_simp; try with_reducible rfl
                try simp only [Act.put, List.setIfInBounds_toArray, List.set_cons_zero, List.set_cons_succ]
                refine wpAnyZ_take (i := 6) (oi := { dst := some 92, op := Go.Op.nilCheck (Go.Operand.tmp 91), type := 0, pos := "dom.go:74", after := #[{ on := 5, ground := Go.Ground.data }], guard := none }) (v := ?_) rfl (by kernel_rfl) (by kernel_rfl) (by kernel_rfl) (by kernel_rfl) (fun _ _ _ h => h) (Or.inl ⟨by rfl, ?_⟩) (by assumption) ?_
                rotate_left 1
                · intro w hSw; (obtain ⟨d0, d1, d2, _⟩ := hSw); go_simp; try with_reducible rfl
                try simp only [Act.put, List.setIfInBounds_toArray, List.set_cons_zero, List.set_cons_succ]
                refine wpAnyZ_take (i := 7) (oi := { dst := some 93, op := Go.Op.fieldAddr 83 (Go.Operand.tmp 92) 2, type := 0, pos := "dom.go:74", after := #[{ on := 6, ground := Go.Ground.data }], guard := none }) (v := ?_) rfl (by kernel_rfl) (by kernel_rfl) (by kernel_rfl) (by kernel_rfl) (fun _ _ _ h => h) (Or.inl ⟨by rfl, ?_⟩) (by assumption) ?_
                rotate_left 1
                · intro w hSw; (obtain ⟨d0, d1, d2, _⟩ := hSw); go_simp; try with_reducible rfl
                try simp only [Act.put, List.setIfInBounds_toArray, List.set_cons_zero, List.set_cons_succ]
                refine wpAnyZ_take (i := 8) (oi := { dst := some 94, op := Go.Op.load 31 (Go.Operand.tmp 93), type := 31, pos := "dom.go:74", after := #[{ on := 7, ground := Go.Ground.data }], guard := none }) (v := ?_) rfl (by kernel_rfl) (by kernel_rfl) (by kernel_rfl) (by kernel_rfl) (fun _ _ _ h => h) (Or.inl ⟨by rfl, ?_⟩) (by assumption) ?_
                rotate_left 1
                · intro w hSw; (obtain ⟨d0, d1, d2, _⟩ := hSw); go_simp; try with_reducible rfl
                try simp only [Act.put, List.setIfInBounds_toArray, List.set_cons_zero, List.set_cons_succ]
                refine wpAnyZ_take (i := 9) (oi := { dst := some 95, op := Go.Op.move (Go.Operand.tmp 10), type := 3, pos := "dom.go:74", after := #[], guard := none }) (v := ?_) rfl (by kernel_rfl) (by kernel_rfl) (by kernel_rfl) (by kernel_rfl) (fun _ _ _ h => h) (Or.inl ⟨by rfl, ?_⟩) (by assumption) ?_
                rotate_left 1
                · intro w hSw; (obtain ⟨d0, d1, d2, _⟩ := hSw); go_simp; try with_reducible rfl
                try simp only [Act.put, List.setIfInBounds_toArray, List.set_cons_zero, List.set_cons_succ]
                refine wpAnyZ_take (i := 10) (oi := { dst := some 96, op := Go.Op.indexAddr 31 (Go.Operand.tmp 94) (Go.Operand.tmp 95), type := 0, pos := "dom.go:74", after := #[{ on := 8, ground := Go.Ground.data }, { on := 9, ground := Go.Ground.data }], guard := none }) (v := ?_) rfl (by kernel_rfl) (by kernel_rfl) (by kernel_rfl) (by kernel_rfl) (fun _ _ _ h => h) (Or.inl ⟨by rfl, ?_⟩) (by assumption) ?_
                rotate_left 1
                · intro w hSw; (obtain ⟨d0, d1, d2, _⟩ := hSw); go_simp; try with_reducible rfl
                try simp only [Act.put, List.setIfInBounds_toArray, List.set_cons_zero, List.set_cons_succ]
                refine wpAnyZ_take (i := 11) (oi := { dst := some 97, op := Go.Op.load 3 (Go.Operand.tmp 96), type := 3, pos := "dom.go:74", after := #[{ on := 10, ground := Go.Ground.data }], guard := none }) (v := ?_) rfl (by kernel_rfl) (by kernel_rfl) (by kernel_rfl) (by kernel_rfl) (fun _ _ _ h => h) (Or.inl ⟨by rfl, ?_⟩) (by assumption) ?_
                rotate_left 1
                · intro w hSw; (obtain ⟨d0, d1, d2, _⟩ := hSw); go_simp; try with_reducible rfl
                try simp only [Act.put, List.setIfInBounds_toArray, List.set_cons_zero, List.set_cons_succ]
                refine wpAnyZ_take (i := 12) (oi := { dst := some 98, op := Go.Op.move (Go.Operand.tmp 5), type := 81, pos := "dom.go:74", after := #[], guard := none }) (v := ?_) rfl (by kernel_rfl) (by kernel_rfl) (by kernel_rfl) (by kernel_rfl) (fun _ _ _ h => h) (Or.inl ⟨by rfl, ?_⟩) (by assumption) ?_
                rotate_left 1
                · intro w hSw; (obtain ⟨d0, d1, d2, _⟩ := hSw); go_simp; try with_reducible rfl
                try simp only [Act.put, List.setIfInBounds_toArray, List.set_cons_zero, List.set_cons_succ]
                refine wpAnyZ_take (i := 13) (oi := { dst := some 99, op := Go.Op.nilCheck (Go.Operand.tmp 98), type := 0, pos := "dom.go:74", after := #[{ on := 12, ground := Go.Ground.data }], guard := none }) (v := ?_) rfl (by kernel_rfl) (by kernel_rfl) (by kernel_rfl) (by kernel_rfl) (fun _ _ _ h => h) (Or.inl ⟨by rfl, ?_⟩) (by assumption) ?_
                rotate_left 1
                · intro w hSw; (obtain ⟨d0, d1, d2, _⟩ := hSw); go_simp; try with_reducible rfl
                try simp only [Act.put, List.setIfInBounds_toArray, List.set_cons_zero, List.set_cons_succ]
                refine wpAnyZ_take (i := 14) (oi := { dst := some 100, op := Go.Op.fieldAddr 83 (Go.Operand.tmp 99) 2, type := 0, pos := "dom.go:74", after := #[{ on := 13, ground := Go.Ground.data }], guard := none }) (v := ?_) rfl (by kernel_rfl) (by kernel_rfl) (by kernel_rfl) (by kernel_rfl) (fun _ _ _ h => h) (Or.inl ⟨by rfl, ?_⟩) (by assumption) ?_
                rotate_left 1
                · intro w hSw; (obtain ⟨d0, d1, d2, _⟩ := hSw); go_simp; try with_reducible rfl
                try simp only [Act.put, List.setIfInBounds_toArray, List.set_cons_zero, List.set_cons_succ]
                refine wpAnyZ_take (i := 15) (oi := { dst := some 101, op := Go.Op.load 31 (Go.Operand.tmp 100), type := 31, pos := "dom.go:74", after := #[{ on := 14, ground := Go.Ground.data }], guard := none }) (v := ?_) rfl (by kernel_rfl) (by kernel_rfl) (by kernel_rfl) (by kernel_rfl) (fun _ _ _ h => h) (Or.inl ⟨by rfl, ?_⟩) (by assumption) ?_
                rotate_left 1
                · intro w hSw; (obtain ⟨d0, d1, d2, _⟩ := hSw); go_simp; try with_reducible rfl
                try simp only [Act.put, List.setIfInBounds_toArray, List.set_cons_zero, List.set_cons_succ]
                refine wpAnyZ_take (i := 16) (oi := { dst := some 102, op := Go.Op.move (Go.Operand.tmp 5), type := 81, pos := "dom.go:74", after := #[], guard := none }) (v := ?_) rfl (by kernel_rfl) (by kernel_rfl) (by kernel_rfl) (by kernel_rfl) (fun _ _ _ h => h) (Or.inl ⟨by rfl, ?_⟩) (by assumption) ?_
                rotate_left 1
                · intro w hSw; (obtain ⟨d0, d1, d2, _⟩ := hSw); go_simp; try with_reducible rfl
                try simp only [Act.put, List.setIfInBounds_toArray, List.set_cons_zero, List.set_cons_succ]
                refine wpAnyZ_take (i := 17) (oi := { dst := some 103, op := Go.Op.move (Go.Operand.tmp 12), type := 3, pos := "dom.go:74", after := #[], guard := none }) (v := ?_) rfl (by kernel_rfl) (by kernel_rfl) (by kernel_rfl) (by kernel_rfl) (fun _ _ _ h => h) (Or.inl ⟨by rfl, ?_⟩) (by assumption) ?_
                rotate_left 1
                · intro w hSw; (obtain ⟨d0, d1, d2, _⟩ := hSw); go_simp; try with_reducible rfl
                try simp only [Act.put, List.setIfInBounds_toArray, List.set_cons_zero, List.set_cons_succ]
                refine wpAnyZ_step (i := 18) (o := { dst := some 104, op := Go.Op.call { callee := Go.Callee.value (Go.Operand.func 53), args := #[Go.Operand.tmp 102, Go.Operand.tmp 103], argTypes := #[81, 3] }, type := 3, pos := "dom.go:74", after := #[{ on := 16, ground := Go.Ground.data }, { on := 17, ground := Go.Ground.data }], guard := none }) rfl (by kernel_rfl) (fun K hK => ?_)
                go_simp
                refine EV.out.mono ?_
                rintro e W9 ⟨x, root', lab', rfl, hf9, ho9, hfo9, hcs⟩
                obtain ⟨z, hz, hcd⟩ := CD.out x hcs
                have c9 := hf9.semi.cell hz
                have x0 : 0 ≤ (x : Int) := by omega
                have x1 : (x : Int) < (k : Int) := by have := hf9.semi; have := (List.getElem?_eq_some_iff.1 hz).1; have := HQ.out.2.1.len; omega
                have hps9 := PS.of hf9 HC.out
                have H9 := Lib.hid (And.intro hf9 (And.intro ho9 (And.intro hfo9 hcd)))
                clear hf9 ho9 hfo9 hcs hz hcd
                refine hK.out _ _ (fun _ => ?_) (fun hHeld1 => ?_)
                · (try dsimp only); first | exact hS2 | exact hps9
                replace hHeld1 := hHeld1 (by decide)
                clear hK K hHeld
                try simp only [Act.put, List.setIfInBounds_toArray, List.set_cons_zero, List.set_cons_succ]
                refine wpAnyZ_take (i := 19) (oi := { dst := some 105, op := Go.Op.indexAddr 31 (Go.Operand.tmp 101) (Go.Operand.tmp 104), type := 0, pos := "dom.go:74", after := #[{ on := 15, ground := Go.Ground.data }, { on := 18, ground := Go.Ground.data }], guard := none }) (v := ?_) rfl (by kernel_rfl) (by kernel_rfl) (by kernel_rfl) (by kernel_rfl) (fun _ _ _ h => h) (Or.inl ⟨by rfl, ?_⟩) (by assumption) ?_
                rotate_left 1
                · intro w hSw; (obtain ⟨d0, d1, d2, _⟩ := hSw); go_simp; try with_reducible rfl
                try simp only [Act.put, List.setIfInBounds_toArray, List.set_cons_zero, List.set_cons_succ]
                refine wpAnyZ_step (i := 20) (o := { dst := some 106, op := Go.Op.load 3 (Go.Operand.tmp 105), type := 3, pos := "dom.go:74", after := #[{ on := 19, ground := Go.Ground.data }], guard := none }) rfl (by kernel_rfl) (fun K hK => ?_)
                go_simp
                refine hK.out _ _ (fun _ => ?_) (fun hHeld2 => ?_)
                · (try dsimp only); first | exact hS2 | exact hps9
                replace hHeld2 := hHeld2 (by decide)
                clear hK K hHeld1
                try simp only [Act.put, List.setIfInBounds_toArray, List.set_cons_zero, List.set_cons_succ]
                refine wpAnyZ_step (i := 21) (o := { dst := some 107, op := Go.Op.call { callee := Go.Callee.builtin Go.Builtin.min, args := #[Go.Operand.tmp 97, Go.Operand.tmp 106], argTypes := #[3, 3] }, type := 3, pos := "dom.go:74", after := #[{ on := 11, ground := Go.Ground.data }, { on := 20, ground := Go.Ground.data }], guard := none }) rfl (by kernel_rfl) (fun K hK => ?_)
                go_simp
                refine hK.out _ _ (fun _ => ?_) (fun hHeld3 => ?_)
                · (try dsimp only); first | exact hS2 | exact hps9
                replace hHeld3 := hHeld3 (by decide)
                clear hK K hHeld2
                try simp only [Act.put, List.setIfInBounds_toArray, List.set_cons_zero, List.set_cons_succ]
                refine wpAnyZ_take (i := 22) (oi := { dst := some 108, op := Go.Op.indexAddr 31 (Go.Operand.tmp 89) (Go.Operand.tmp 90), type := 0, pos := "dom.go:74", after := #[{ on := 3, ground := Go.Ground.data }, { on := 4, ground := Go.Ground.data }, { on := 0, ground := Go.Ground.phase }, { on := 1, ground := Go.Ground.phase }, { on := 2, ground := Go.Ground.phase }, { on := 3, ground := Go.Ground.phase }, { on := 4, ground := Go.Ground.phase }, { on := 5, ground := Go.Ground.phase }, { on := 6, ground := Go.Ground.phase }, { on := 7, ground := Go.Ground.phase }, { on := 8, ground := Go.Ground.phase }, { on := 9, ground := Go.Ground.phase }, { on := 10, ground := Go.Ground.phase }, { on := 11, ground := Go.Ground.phase }, { on := 12, ground := Go.Ground.phase }, { on := 13, ground := Go.Ground.phase }, { on := 14, ground := Go.Ground.phase }, { on := 15, ground := Go.Ground.phase }, { on := 16, ground := Go.Ground.phase }, { on := 17, ground := Go.Ground.phase }, { on := 18, ground := Go.Ground.phase }, { on := 19, ground := Go.Ground.phase }, { on := 20, ground := Go.Ground.phase }, { on := 21, ground := Go.Ground.phase }], guard := none }) (v := ?_) rfl (by kernel_rfl) (by kernel_rfl) (by kernel_rfl) (by kernel_rfl) (fun _ _ _ h => h) (Or.inl ⟨by rfl, ?_⟩) (by assumption) ?_
                rotate_left 1
                · intro w hSw; (obtain ⟨d0, d1, d2, _⟩ := hSw); go_simp; try with_reducible rfl
                try simp only [Act.put, List.setIfInBounds_toArray, List.set_cons_zero, List.set_cons_succ]
                refine wpAnyZ_step (i := 23) (o := { dst := none, op := Go.Op.store 3 (Go.Operand.tmp 108) (Go.Operand.tmp 107), type := 0, pos := "dom.go:74", after := #[{ on := 22, ground := Go.Ground.data }, { on := 21, ground := Go.Ground.data }, { on := 18, ground := Go.Ground.chain }, { on := 0, ground := Go.Ground.phase }, { on := 1, ground := Go.Ground.phase }, { on := 2, ground := Go.Ground.phase }, { on := 3, ground := Go.Ground.phase }, { on := 4, ground := Go.Ground.phase }, { on := 5, ground := Go.Ground.phase }, { on := 6, ground := Go.Ground.phase }, { on := 7, ground := Go.Ground.phase }, { on := 8, ground := Go.Ground.phase }, { on := 9, ground := Go.Ground.phase }, { on := 10, ground := Go.Ground.phase }, { on := 11, ground := Go.Ground.phase }, { on := 12, ground := Go.Ground.phase }, { on := 13, ground := Go.Ground.phase }, { on := 14, ground := Go.Ground.phase }, { on := 15, ground := Go.Ground.phase }, { on := 16, ground := Go.Ground.phase }, { on := 17, ground := Go.Ground.phase }, { on := 18, ground := Go.Ground.phase }, { on := 19, ground := Go.Ground.phase }, { on := 20, ground := Go.Ground.phase }, { on := 21, ground := Go.Ground.phase }], guard := none }) rfl (by kernel_rfl) (fun K hK => ?_)
                obtain ⟨e1, e2, e3, _⟩ := hHeld3
                go_simp
                refine hK.out _ _ (fun h => absurd rfl h) (fun _ => ?_)
                clear hK K
                try simp only [Act.put, List.setIfInBounds_toArray, List.set_cons_zero, List.set_cons_succ]
                refine wpAnyZ_done (by kernel_rfl) ?_ _
                have hofE := (HQ.out.1.rl H9.out.1 ((Only.drewN (fun k => k = qr ∨ k = ql) wo 1).trans H9.out.2.1 (fun _ _ e => e))).setS wv ((min c z : Nat) : Int)
                have hmin : min (c : Int) (z : Int) = ((min c z : Nat) : Int) := by omega
                have hsE := HQ.out.2.1.less HP.out.2.1 HO.out.2.2.2.2.1 (min c z)
                have honE : Only (fun g => g = qs ∨ g = qr ∨ g = ql) X1 (W9.setCell ⟨qs, wv, none⟩ (.int .i64 ((min c z : Nat) : Int))) :=
                  ((HQ.out.2.2.1.trans (Only.drewN (fun _ => False) wo 1) (fun _ _ e => e.elim)).trans H9.out.2.1 (fun _ _ e => .inr e)).trans (Only.setCell W9 ⟨qs, wv, none⟩ _) (fun _ _ e => .inl e)
                have HE := Lib.hid (And.intro hofE (And.intro hsE (And.intro H9.out.2.2.1 (And.intro H9.out.2.2.2 honE))))
                rw [hmin]
                clear hmin hofE hsE honE e1 e2 e3 hps9 c9 hS2 cs cs0 x2 hc H9 HQ HC CD EV
                go_wp2_with fail
                go_roundw
                case rel => exact ⟨t + 1, by go_num, Lib.hid ⟨by omega, ⟨_, _, _, _, HE.out.1, HE.out.2.1, HE.out.2.2.1, HE.out.2.2.2.1⟩, HE.out.2.2.2.2⟩⟩
                case measure => simp [intOf]; omega
              · have cs := hof.fm.semi.cell (hse.un v hvk hm)
                have HE := Lib.hid (show ∃ c semi root lab, OF w base k q1 p1 b a S F (.slice (some ⟨g0, o0, none⟩) s.length cv) qp qs qr ql qu qk s par semi root lab up ks bk wo ∧ LT.Semi s sd k i c semi ∧ LT.Forest s A sd (i + 1) root lab ∧ LT.Cand s A sd i c (l.take (t + 1)) from ⟨c, semi2, root2, lab2, hof, hse, hfo, by rw [hsnoc]; exact hcand.skip hm⟩)
                have HON := Lib.hid hon
                clear hof hse hfo hcand hon hrw hv hvm hvm2 hsnoc hm
                go_wp2_with fail
                go_roundw
                case rel => exact ⟨t + 1, by go_num, Lib.hid ⟨by omega, HE.out, HON.out⟩⟩
                case measure => simp [intOf]; omega
            · obtain rfl : t = l.length := by omega
              have pp2 : ((l.length : Int) < (l.length : Int)) = False := eq_false (by omega)
              rw [List.take_length] at hcand
              have hcs : c = sd i := hcand.done HP.out.1 HP.out.2.2.1 hi hil (fun j v hj he => by
                rw [← HP.out.2.2.2.2.2.2.2.2.1] at he
                obtain ⟨x, y, h1, h2, h3⟩ := he
                rw [HP.out.2.2.2.2.2.2.1] at h1 h2
                rw [hj] at h1
                rw [HO.out.2.2.2.2.1] at h2
                obtain rfl := Option.some.inj h1
                obtain rfl := Option.some.inj h2
                have hm := (HG.out.2.2.2.2.1.mem wv v).2 ⟨HP.out.2.2.2.1 v (List.mem_of_getElem? hj), h3⟩
                rw [List.getD_eq_getElem?_getD, HO.out.2.2.2.2.2] at hm
                exact hm)
              subst hcs
              have hsi := LT.sd_lt HP.out.1 hi hil (HP.out.2.2.1 i hi hil)
              obtain ⟨kv, hkv⟩ : ∃ x, s[sd i]? = some x := ⟨_, List.getElem?_eq_getElem (by omega)⟩
              have hkk : kv < k := HP.out.2.2.2.1 kv (List.mem_of_getElem? hkv)
              have x0 := hof.fm.cell.1
              have x2 := hof.fm.cell.2.2.1
              have cs : wo.cell? ⟨qs, wv, none⟩ = some (.int .i64 (sd i : Int)) := hof.fm.semi.cell (by rw [hse.met i wv HO.out.2.2.2.2.1]; simp [LT.sv])
              have hc := hof.row.cell (sd i) (iv kv) (by rw [List.getElem?_map, hkv]; rfl)
              unfold iv at hc
              have d0 : 0 ≤ (sd i : Int) := by omega
              have d1 : (sd i : Int) < (s.length : Int) := by omega
              have d2 : 0 ≤ (kv : Int) := by omega
              have d3 : (kv : Int) < (k : Int) := by omega
              have HF := Lib.hid (And.intro hof (And.intro hse (And.intro hfo (And.intro hkv hsi))))
              clear hof hse hfo hcand hon hrw hkv
              go_wp2_with fail
              go_quiet (fail)
              clear x0 x2 cs hc pp2
              have hofZ := HF.out.1.later (below_drewN' wo nq)
              generalize wo.drewN nq = Z at *
              obtain ⟨rv, lk, hrv, hlk, hrr⟩ := hofZ.mat.get (i := kv) (by rw [HO.out.2.2.2.1.lb]; exact hkk)
              have hlkD : bk.getD kv [] = lk := by rw [List.getD_eq_getElem?_getD, hlk]; rfl
              have hkc := hofZ.mat.cell kv
              rw [hrv] at hkc
              have hkf := hofZ.mat.frozen kv
              have hlk1 : lk.length ≤ 1048575 := by have := HO.out.2.2.2.1.cnt kv; rw [hlkD] at this; omega
              have hZw : w.heap.size + 2 ≤ Z.heap.size := Nat.le_trans hofZ.mat.ge (Nat.le_of_lt (lt_blk hofZ.mat.blk))
              obtain ⟨v', w5, hr, k1, k2, k3⟩ := row_append (w := Z.alloc (.cells #[.int .i64 (wv : Int)] 3)) (base := w.heap.size + 2) (v := rv) (l := lk) (hrr.only (Only.alloc (fun _ => False) _ _) (fun _ _ e => e)) ⟨Z.heap.size, 0, none⟩ wv (by
                have := cell_of_blk (Z.alloc (.cells #[.int .i64 (wv : Int)] 3)) Z.heap.size _ _ _ (heap_alloc_new' Z _) 0
                exact this) (by simp; omega) (by omega)
              obtain ⟨A1, m1, c1, rfl⟩ : ∃ A m c, v' = .slice A m c := (rowAt_slice k1).elim fun A h => h.elim fun c h => ⟨A, _, c, h.1⟩
              have hvq : rv.ownBlock ≠ some qk := hrr.ne_blk hofZ.mat.blk (by decide)
              have ho5 : Only (fun g => rv.ownBlock = some g) Z w5 := (Only.alloc _ _ _).trans k2 (fun _ _ e => e)
              have hc5 := (ho5.cell (p := ⟨qk, kv, none⟩) (lt_blk hofZ.mat.blk) hvq).trans hkc
              have hf5 := (ho5.frozen (p := ⟨qk, kv, none⟩) (lt_blk hofZ.mat.blk) hvq).trans hkf
              have hset := hofZ.mat.set (w1 := w5) hrv hlk ho5 k1 (k3.imp id (fun ⟨g, h1, h2⟩ => ⟨g, h1, by simp at h2; omega⟩))
              have hofK := hofZ.setK hset.1 hset.2.1 hset.2.2
              have hbA := HO.out.2.2.2.1.add HP.out.2.1 hi HO.out.2.2.2.2.1 HF.out.2.2.2.1 hkk
              rw [hlkD] at hbA
              obtain ⟨A0, c0', rfl, _, _, _⟩ := rowAt_slice hrr
              simp only [List.length_map] at hr hkc hc5
              have HR := Lib.hid hr
              have HK := Lib.hid (And.intro hofK hbA)
              clear hofZ hrv hlk hrr hlkD hlk1 hr k1 k2 k3 hvq ho5 hset hofK hbA
              go_wp2_with (first | (at_builtin; refine Lib.wpList_append_run _ rfl _ _ _ _ rfl _ _ rfl rfl _ _ HR.out ?_) | fail)
              clear hc5 hf5 hkc hkf HR
              generalize w5.setCell ⟨qk, kv, none⟩ (.slice A1 m1 c1) = W5 at *
              obtain ⟨uv, huv, hparw⟩ := HP.out.2.2.2.2.1 i wv hi HO.out.2.2.2.2.1
              have huk : uv < k := HP.out.2.2.2.1 uv (List.mem_of_getElem? huv)
              have y3 := HK.out.1.fm.cell.2.2.2.1
              have y1 := HK.out.1.fm.cell.2.1
              have cp := HK.out.1.fm.par.cell hparw
              have u0 : 0 ≤ (uv : Int) := by omega
              have u1 : (uv : Int) < (k : Int) := by omega
              have hofD := HK.out.1.later (below_drewN' W5 1)
              have hrt := (HF.out.2.2.1.un i wv (by omega) HO.out.2.2.2.2.1).1
              have cr := hofD.fm.root.cell hrt
              have fr := hofD.fm.root.frozen wv
              have hofR := hofD.setR wv (uv : Int)
              have hfoR := HF.out.2.2.1.link HP.out.1 HP.out.2.1 hi HO.out.2.2.2.2.1 huv
              have HL := Lib.hid (And.intro hofR (And.intro hfoR (And.intro HK.out.2 (And.intro huv hparw))))
              clear hofD hrt hofR hfoR huv
              go_still_tail 13, (by kernel_rfl)
              change wpList _ _ _ _ _ (W5.drewN 1)
              generalize W5.drewN 1 = W6 at *
              clear y3 y1 cp
              go_upto_region 26 with (fail)
              clear cr fr
              generalize W6.setCell ⟨qr, wv, none⟩ (.int .i64 (uv : Int)) = W7 at *
              have y1 := HL.out.1.fm.cell.2.1
              have cp := HL.out.1.fm.par.cell hparw
              obtain ⟨ru, lu, hru, hlu, hrw⟩ := HL.out.1.mat.get (i := uv) (by rw [HL.out.2.2.1.lb]; exact huk)
              have hluD : (bk.set kv (lk ++ [wv])).getD uv [] = lu := by rw [List.getD_eq_getElem?_getD, hlu]; rfl
              have hkc := HL.out.1.mat.cell uv
              rw [hru] at hkc
              obtain ⟨A4, c4, rfl, _, _, _⟩ := rowAt_slice hrw
              simp only [List.length_map] at hkc hru hrw
              have hlul : lu.length ≤ 1048576 := by have := HL.out.2.2.1.cnt uv; rw [hluD] at this; omega
              have HU := Lib.hid (And.intro hru (And.intro hlu (And.intro hrw hluD)))
              have HLo := Lib.hid (show ∀ g, (Value.slice A4 lu.length c4).ownBlock = some g → g ≠ qr ∧ g ≠ ql ∧ g ≠ qu from fun g hg => by
                have := HL.out.1.sepK g (.inr ⟨uv, _, hru, hg⟩)
                exact ⟨this.2.2.1, this.2.2.2.1, this.2.2.2.2.1⟩)
              clear hru hlu hrw hluD
              go_wp2_with fail
              clear y1 cp hkc
              obtain ⟨ks', hks'⟩ : ∃ x, ks.set kv (.slice A1 m1 c1) = x := ⟨_, rfl⟩
              obtain ⟨bk', hbk'⟩ : ∃ x, bk.set kv (lk ++ [wv]) = x := ⟨_, rfl⟩
              have hse' : ∀ (q y : Nat), i ≤ q → s[q]? = some y → semi2[y]? = some (sd q : Int) := fun q y hq hy => by
                rw [HF.out.2.1.met q y hy]; unfold LT.sv
                by_cases e : i < q
                · rw [if_pos e]
                · have e2 : q = i := by omega
                  subst e2
                  rw [if_neg e, if_pos rfl]
              have hL := HL.out
              have hU := HU.out
              rw [hks', hbk'] at hL
              rw [hks', hbk'] at hU
              have HL2 := Lib.hid hL
              have HU2 := Lib.hid hU
              have HSE := Lib.hid hse'
              clear hL hU hse' HL HU HK hks' hbk' HX1 HZ
              go_loopw [157] (fun v wr4 => ∃ t : Nat, v = .int .i64 (t : Int) ∧ Hid (t ≤ lu.length ∧ (∃ root lab up, OF w base k q1 p1 b a S F (.slice (some ⟨g0, o0, none⟩) s.length cv) qp qs qr ql qu qk s par semi2 root lab up ks' bk' wr4 ∧ LT.Forest s A sd i root lab ∧ LT.Buck s A sd p k (i - 1) i bk' up ∧ ∀ x ∈ lu.take t, ∀ j, s[j]? = some x → LT.Done s A sd up j x) ∧ Only (fun g => g = qr ∨ g = ql ∨ g = qu) W7 wr4)) (fun v _ => lu.length - (intOf v).toNat)
              case atStart => exact ⟨0, rfl, Lib.hid ⟨Nat.zero_le _, ⟨_, _, _, HL2.out.1, HL2.out.2.1, HL2.out.2.2.1, fun x hx => by simp at hx⟩, Only.refl _ _⟩⟩
              case round =>
                obtain ⟨wr4, rfl⟩ : ∃ x : World, x = wr := ⟨_, rfl⟩
                obtain ⟨t, rfl, HI⟩ := hrel
                obtain ⟨ht0, ⟨root4, lab4, up4, hof, hfo, hbk, hdn⟩, hon⟩ := HI.out
                clear HI
                have hrw := HU2.out.2.2.1.only hon (fun g hg e => by have := HLo.out g hg; omega)
                by_cases ht : t < lu.length
                · obtain ⟨x, hx⟩ : ∃ x, lu[t]? = some x := ⟨_, List.getElem?_eq_getElem ht⟩
                  obtain ⟨g1, o1, rfl⟩ : ∃ g o, A4 = some ⟨g, o, none⟩ := by
                    rcases hrw with ⟨h1, h2⟩ | ⟨g, o, cap, cur, h1, _⟩
                    · have : lu = [] := by simpa using h2
                      rw [this] at ht; simp at ht
                    · injection h1 with h1; exact ⟨g, o, h1⟩
                  have hc := hrw.cell t (iv x) (by rw [List.getElem?_map, hx]; rfl)
                  unfold iv at hc
                  have hxm : x ∈ bk'.getD uv [] := by rw [HU2.out.2.2.2]; exact List.mem_of_getElem? hx
                  obtain ⟨j, hj1, hj, hjs⟩ := hbk.inb (p i) uv x HL2.out.2.2.2.1 hxm
                  have hji : i ≤ j := by omega
                  have hxk : x < k := HP.out.2.2.2.1 x (List.mem_of_getElem? hj)
                  have pp3 : ((t : Int) < (lu.length : Int)) = True := eq_true (by omega)
                  have t0 : 0 ≤ (t : Int) := by omega
                  have t1 : (t : Int) < (lu.length : Int) := by omega
                  have x0 : 0 ≤ (x : Int) := by omega
                  have x1 : (x : Int) < (k : Int) := by omega
                  have y1 := hof.fm.cell.2.1
                  have cp := hof.fm.par.cell hparw
                  obtain ⟨z, hz⟩ : ∃ z, up4[x]? = some z := ⟨_, List.getElem?_eq_getElem (by rw [hbk.lup]; exact hxk)⟩
                  have cu := hof.up.cell hz
                  have fu := hof.up.frozen x
                  have hofU := hof.setU x (uv : Int)
                  have honU : Only (fun g => g = qr ∨ g = ql ∨ g = qu) W7 (wr4.setCell ⟨qu, x, none⟩ (.int .i64 (uv : Int))) := hon.trans (Only.setCell wr4 ⟨qu, x, none⟩ _) (fun _ _ e => .inr (.inr e))
                  have hxu := (List.getElem?_eq_some_iff.1 hz).1
                  have HE := Lib.hid (And.intro hofU (And.intro hfo (And.intro hbk (And.intro hdn (And.intro honU (And.intro hj (And.intro hjs (And.intro hx hxu))))))))
                  clear hof hfo hbk hdn hon hrw hxm hj hjs hz hofU honU hx hxu
                  go_upto_region 30 with (fail)
                  clear hc y1 cp cu fu
                  generalize wr4.setCell ⟨qu, x, none⟩ (.int .i64 (uv : Int)) = W8 at *
                  go_wp2_with fail
                  refine (LT.eval_calls HP.out.1 HP.out.2.1 HP.out.2.2.2.1 (by omega) (i0 := i) HSE.out j x W8 root4 lab4 HE.out.1.fm HE.out.2.1 HE.out.2.2.2.2.2.1).mono ?_
                  rintro e W9 ⟨x', root', lab', rfl, hf9, ho9, hfo9, hcs⟩
                  obtain ⟨r, m, h2, h3, h4, h5⟩ := (hcs.resolve_left (by omega)).2
                  have hjl := (List.getElem?_eq_some_iff.1 HE.out.2.2.2.2.2.1).1
                  have hrj := LT.arg_root HP.out.1 HP.out.2.2.1 hi hji hjl HE.out.2.2.2.2.2.2.1 h3 h2 h4
                  have hmi := h4 m h3.1 h3.2.1 h3.2.2.1
                  subst hrj
                  have hof9 := HE.out.1.rl hf9 ho9
                  have hx'k : x' < k := HP.out.2.2.2.1 x' (List.mem_of_getElem? h5)
                  have c1' := hf9.semi.cell (HSE.out m x' hmi h5)
                  have c2' := hf9.semi.cell (HSE.out j x hji HE.out.2.2.2.2.2.1)
                  have z2 := hf9.cell.2.2.1
                  have s0 : 0 ≤ (x' : Int) := by omega
                  have s1 : (x' : Int) < (k : Int) := by omega
                  have hon9 : Only (fun g => g = qr ∨ g = ql ∨ g = qu) W7 W9 := HE.out.2.2.2.2.1.trans ho9 (fun _ _ e => e.elim .inl (fun e => .inr (.inl e)))
                  have H9 := Lib.hid (And.intro hof9 (And.intro hfo9 (And.intro h3 (And.intro h5 hon9))))
                  clear hf9 ho9 hfo9 hcs h2 h3 h4 h5 hof9 hon9
                  have fin : ∀ (up' : List Int) (y : Nat) (X' : World), s[if sd m < sd j then m else sd j]? = some y → up' = up4.set x (y : Int) → Only (fun g => g = qr ∨ g = ql ∨ g = qu) W7 X' → OF w base k q1 p1 b a S F (.slice (some ⟨g0, o0, none⟩) s.length cv) qp qs qr ql qu qk s par semi2 root' lab' up' ks' bk' X' →
                      (∃ root lab up, OF w base k q1 p1 b a S F (.slice (some ⟨g0, o0, none⟩) s.length cv) qp qs qr ql qu qk s par semi2 root lab up ks' bk' X' ∧ LT.Forest s A sd i root lab ∧ LT.Buck s A sd p k (i - 1) i bk' up ∧ ∀ x ∈ lu.take (t + 1), ∀ j, s[j]? = some x → LT.Done s A sd up j x) ∧ Only (fun g => g = qr ∨ g = ql ∨ g = qu) W7 X' := by
                    intro up' y X' hy he ho hof'
                    subst he
                    have hd : LT.Done s A sd (up4.set x (y : Int)) j x := ⟨m, y, H9.out.2.2.1, hy, List.getElem?_set_self HE.out.2.2.2.2.2.2.2.2⟩
                    refine ⟨⟨root', lab', _, hof', H9.out.2.1, HE.out.2.2.1.put HP.out.2.1 (by omega) HE.out.2.2.2.2.2.1 hd, fun x2 hx2 j2 hj2 => ?_⟩, ho⟩
                    rw [take_snoc' lu t x HE.out.2.2.2.2.2.2.2.1] at hx2
                    rcases List.mem_append.1 hx2 with hx2 | hx2
                    · exact LT.Done.keep HP.out.2.1 HE.out.2.2.2.2.2.1 hd hj2 (HE.out.2.2.2.1 x2 hx2 j2 hj2)
                    · simp at hx2; subst hx2
                      obtain rfl := LT.pre_inj HP.out.2.1 HE.out.2.2.2.2.2.1 hj2
                      exact hd
                  have FIN := Lib.hid fin
                  clear fin
                  by_cases hlt : sd m < sd j
                  · have qq : ((sd m : Int) < (sd j : Int)) := by omega
                    go_wp2_with fail
                    go_quiet (fail)
                    clear c1' c2' z2
                    have hofD := H9.out.1.later (below_drewN' W9 nq)
                    have honD := H9.out.2.2.2.2.trans (Only.drewN (fun _ => False) W9 nq) (fun _ _ e => e.elim)
                    generalize W9.drewN nq = W10 at *
                    have cu : W10.cell? ⟨qu, x, none⟩ = some (.int .i64 (uv : Int)) := hofD.up.cell (List.getElem?_set_self HE.out.2.2.2.2.2.2.2.2)
                    have fu := hofD.up.frozen x
                    have hofE := hofD.setU x (x' : Int)
                    have honE : Only (fun g => g = qr ∨ g = ql ∨ g = qu) W7 (W10.setCell ⟨qu, x, none⟩ (.int .i64 (x' : Int))) := honD.trans (Only.setCell W10 ⟨qu, x, none⟩ _) (fun _ _ e => .inr (.inr e))
                    have HEND := Lib.hid (FIN.out _ x' _ (by rw [if_pos hlt]; exact H9.out.2.2.2.1) (by rw [List.set_set]) honE hofE)
                    clear hofD honD hofE honE
                    go_wp2_with fail
                    go_roundw
                    case rel => exact ⟨t + 1, by go_num, Lib.hid ⟨by omega, HEND.out⟩⟩
                    case measure => simp [intOf]; omega
                  · have qq : ¬ ((sd m : Int) < (sd j : Int)) := by omega
                    go_wp2_with fail
                    go_quiet (fail)
                    clear c1' c2' z2
                    have hofD := H9.out.1.later (below_drewN' W9 nq)
                    have honD := H9.out.2.2.2.2.trans (Only.drewN (fun _ => False) W9 nq) (fun _ _ e => e.elim)
                    generalize W9.drewN nq = W10 at *
                    have HEND := Lib.hid (FIN.out _ uv _ (by rw [if_neg hlt, HE.out.2.2.2.2.2.2.1]; exact HL2.out.2.2.2.1) rfl honD hofD)
                    clear hofD honD
                    go_wp2_with fail
                    go_roundw
                    case rel => exact ⟨t + 1, by go_num, Lib.hid ⟨by omega, HEND.out⟩⟩
                    case measure => simp [intOf]; omega
                · obtain rfl : t = lu.length := by omega
                  have pp3 : ((lu.length : Int) < (lu.length : Int)) = False := eq_false (by omega)
                  rw [List.take_length] at hdn
                  have y1 := hof.fm.cell.2.1
                  have cp := hof.fm.par.cell hparw
                  obtain ⟨ru, lu', hru, hlu', _⟩ := hof.mat.get (i := uv) (by rw [hbk.lb]; exact huk)
                  have hkc := hof.mat.cell uv
                  rw [hru] at hkc
                  have hkf := hof.mat.frozen uv
                  have hcl := hof.mat.clear uv
                  have hofE := hof.setK hcl.1 hcl.2.1 hcl.2.2
                  have hbE := hbk.clear hi HL2.out.2.2.2.1 huk (fun j x hj hx => hdn x (by rw [HU2.out.2.2.2] at hx; exact hx) j hj)
                  have HE := Lib.hid (show R1 w base k q1 p1 b a S F (.slice (some ⟨g0, o0, none⟩) s.length cv) qp qs qr ql qu qk s par A sd p (i - 1) (wr4.setCell ⟨qk, uv, none⟩ (.slice none 0 0)) from
                    ⟨semi2, root4, lab4, up4, _, _, hofE, HF.out.2.1.next hi, by rw [Nat.sub_add_cancel hi]; exact hfo, hbE⟩)
                  clear hof hfo hbk hdn hon hrw hru hlu' hcl hofE hbE
                  go_wp2_with fail
                  go_roundw
                  case rel => exact ⟨i - 1, by rfl, Lib.hid ⟨by omega, HE.out⟩⟩
                  case measure => simp [intOf]; omega
        · obtain rfl : i = 0 := by omega
          have i2 : ¬ (0 : Int) < ((0 : Nat) : Int) := by omega
          have hsec := LT.Second.start HP.out.1 HP.out.2.2.1 hbk
          have HS2 := Lib.hid (And.intro hof (And.intro hse hsec))
          clear hof hse hfo hbk hsec
          simp only [Int.cast_ofNat_Int] at *
          go_wp2_with fail
          obtain ⟨wo, rfl⟩ : ∃ x : World, x = wr := ⟨_, rfl⟩
          go_loopw [17] (fun v wr => ∃ i : Nat, v = .int .i64 (i : Int) ∧ Hid (1 ≤ i ∧ i ≤ s.length ∧ ∃ up, OF w base k q1 p1 b a S F (.slice Av s.length cv) qp qs qr ql qu qk s par semi root lab up ks bk wr ∧ LT.Second s E A sd k i up)) (fun v _ => s.length - (intOf v).toNat)
          case atStart => exact ⟨1, rfl, Lib.hid ⟨Nat.le_refl _, HN1.out, _, HS2.out.1, HS2.out.2.2⟩⟩
          case round =>
            obtain ⟨wq, rfl⟩ : ∃ x : World, x = wr := ⟨_, rfl⟩
            obtain ⟨i, rfl, HI⟩ := hrel
            obtain ⟨hi1, hi2, up5, hof, hsec⟩ := HI.out
            clear HI
            have x0 := hof.fm.cell.1
            by_cases hi : i < s.length
            · obtain ⟨wv, hwv⟩ : ∃ x, s[i]? = some x := ⟨_, List.getElem?_eq_getElem hi⟩
              have hwk : wv < k := HP.out.2.2.2.1 wv (List.mem_of_getElem? hwv)
              obtain ⟨kv, uv, hkv, hup, hlook⟩ := hsec.look HP.out.1 HP.out.2.2.1 HP.out.2.1 (by omega) hwv
              have hsi := LT.sd_lt HP.out.1 (by omega) hi (HP.out.2.2.1 i (by omega) hi)
              obtain ⟨g0, o0, rfl⟩ : ∃ g o, Av = some ⟨g, o, none⟩ := by
                rcases hof.row with ⟨h1, h2⟩ | ⟨g, o, cap, cur, h1, _⟩
                · have : s = [] := by simpa using h2
                  rw [this] at hi; simp at hi
                · injection h1 with h1; exact ⟨g, o, h1⟩
              have hc := hof.row.cell i (iv wv) (by rw [List.getElem?_map, hwv]; rfl)
              have hc2 := hof.row.cell (sd i) (iv kv) (by rw [List.getElem?_map, hkv]; rfl)
              unfold iv at hc hc2
              have cu := hof.up.cell hup
              have fu := hof.up.frozen wv
              have x2 := hof.fm.cell.2.2.1
              have cs : wq.cell? ⟨qs, wv, none⟩ = some (.int .i64 (sd i : Int)) := hof.fm.semi.cell (by rw [HS2.out.2.1.met i wv hwv]; unfold LT.sv; rw [if_pos (by omega)])
              have i0 : 0 ≤ (i : Int) := by omega
              have i1 : (i : Int) < (s.length : Int) := by omega
              have w0 : 0 ≤ (wv : Int) := by omega
              have w1 : (wv : Int) < (k : Int) := by omega
              have d0 : 0 ≤ (sd i : Int) := by omega
              have d1 : (sd i : Int) < (s.length : Int) := by omega
              have hup' : up5.length = k := hsec.lup
              rcases hlook with ⟨rfl, hnx⟩ | ⟨hne, v, hv, hnx⟩
              · have qq : ((uv : Int) == (uv : Int)) = true := by simp
                have HE := Lib.hid (And.intro (hof.later (below_drewN' wq 1)) hnx)
                have HOF := Lib.hid hof
                clear hof hsec hwv hkv hup hnx
                go_wp2_with fail
                go_quiet (fail)
                have hofD := HOF.out.later (below_drewN' wq nq)
                generalize wq.drewN nq = W10 at *
                have HD := Lib.hid hofD
                clear hofD x0 hc hc2 cu fu x2 cs
                go_wp2_with fail
                go_roundw
                case rel => exact ⟨i + 1, by go_num, Lib.hid ⟨by omega, by omega, _, HD.out, HE.out.2⟩⟩
                case measure => simp [intOf]; omega
              · have qq : ((uv : Int) == (kv : Int)) = false := beq_eq_false_iff_ne.mpr (by omega)
                have huk : uv < k := by have := (List.getElem?_eq_some_iff.1 hv).1; omega
                have u0 : 0 ≤ (uv : Int) := by omega
                have u1 : (uv : Int) < (k : Int) := by omega
                have HOF := Lib.hid (And.intro hof (And.intro hnx (And.intro hup hv)))
                clear hof hsec hwv hkv hup hnx hv
                go_wp2_with fail
                go_quiet (fail)
                have hofD := HOF.out.1.later (below_drewN' wq nq)
                generalize wq.drewN nq = W10 at *
                clear x0 hc hc2 cu fu x2 cs
                have cu := hofD.up.cell HOF.out.2.2.1
                have cu2 := hofD.up.cell HOF.out.2.2.2
                have fu := hofD.up.frozen wv
                have HD := Lib.hid (hofD.setU wv (v : Int))
                clear hofD
                go_wp2_with fail
                go_roundw
                case rel => exact ⟨i + 1, by go_num, Lib.hid ⟨by omega, by omega, _, HD.out, HOF.out.2.1⟩⟩
                case measure => simp [intOf]; omega
            · obtain rfl : i = s.length := by omega
              have pp5 : ((s.length : Int) < (s.length : Int)) = False := eq_false (by omega)
              have hups : LT.Ups (nb b) k s up5 := by
                have h2 := hsec
                rw [← HP.out.2.2.2.2.2.2.1, ← HP.out.2.2.2.2.2.2.2.1, ← HP.out.2.2.2.2.2.2.2.2.1] at h2
                have := LT.Second.ups HP.out.2.2.2.2.2.1 h2 (by rw [HP.out.2.2.2.2.2.2.1]; exact Nat.le_refl _)
                rwa [HP.out.2.2.2.2.2.2.1] at this
              have hun : ∀ (v : Nat) (x : Int), up5[v]? = some x → x = -1 ∨ ∃ u : Nat, u < k ∧ x = (u : Int) := fun v x hx => by
                by_cases hj : ∃ j, 0 < j ∧ s[j]? = some v
                · obtain ⟨j, h0, hj⟩ := hj
                  obtain ⟨d, u, _, h2, h3, _⟩ := hups.near j v h0 hj
                  rw [h3] at hx
                  exact .inr ⟨u, HP.out.2.2.2.1 u (List.mem_of_getElem? h2), (Option.some.inj hx).symm⟩
                · have := hups.un v (by have := (List.getElem?_eq_some_iff.1 hx).1; rw [hups.len] at this; exact this) (fun j h0 hj' => hj ⟨j, h0, hj'⟩)
                  rw [this] at hx
                  exact .inl (Option.some.inj hx).symm
              have htc := tree_calls h1 hn wq hof.up hof.row HP.out.2.1 HP.out.2.2.2.1 hups.len (fun j v h0 hj => by
                obtain ⟨d, u, h2, h3, h4, _⟩ := hups.near j v h0 hj
                exact ⟨d, u, h2, h3, h4⟩) hun
              have HT := Lib.hid htc
              have HE := Lib.hid (And.intro hof hups)
              clear hof hsec hups hun htc
              go_wp2_with fail
              refine HT.out.mono ?_
              rintro e W9 ⟨qb, qd, vs, deep, f, rfl, htr, hde, hqd, hb9⟩
              have hrx := (hb9.block _ (lt_blk HE.out.1.rx)).trans HE.out.1.rx
              have hbel := below_two HE.out.1.below hb9
              have hdt : LT.DTree (nb b) k up5 deep := by
                have h2 := HE.out.2
                rw [← HP.out.2.2.2.2.2.2.1] at h2 hde
                exact LT.Deeps.tree HP.out.2.2.2.2.2.1 h2 hde (Nat.le_refl _)
              have r0 := cell_of_blk _ _ _ _ _ hrx 0
              have r1 := cell_of_blk _ _ _ _ _ hrx 1
              have r2 := cell_of_blk _ _ _ _ _ hrx 2
              have fr : ∀ i, W9.frozen? ⟨w.heap.size + 1, i, none⟩ = false := fun i => by simp [World.frozen?, hrx]
              have f0 := fr 0
              have f1 := fr 1
              have f2 := fr 2
              simp at r0 r1 r2
              have hs3 := set3_at (n := k) (qu := qu) (qb := qb) (q := qd) hrx
              have ho3 := set3_only W9 (w.heap.size + 1) k qu qb qd
              have s0 := cell_of_blk _ _ _ _ _ hs3 0
              have s1 := cell_of_blk _ _ _ _ _ hs3 1
              have s2 := cell_of_blk _ _ _ _ _ hs3 2
              simp at s0 s1 s2
              have hwz := HE.out.1.below.size
              have hwx := lt_blk HE.out.1.rx
              have hfin : TR (set3 W9 (w.heap.size + 1) k qu qb qd) w.heap.size k qu qb qd vs up5 deep (belows up5 k k) ∧ Below w.heap.size w (set3 W9 (w.heap.size + 1) k qu qb qd) := by
                refine ⟨⟨htr.up.only ho3 (fun e => htr.up.ne hrx (by decide) e), htr.deep.only ho3 (fun e => htr.deep.ne hrx (by decide) e), (htr.mat.lower hwz).only ho3 (fun g hg e => ?_), htr.ne, htr.lb⟩, hbel.trans (ho3.below hbel.size (fun g hg e => by omega))⟩
                have := (htr.mat.lt hg).2
                omega
              have HF := Lib.hid (And.intro hfin hdt)
              clear htr hde hqd hb9 hrx hbel hdt fr hs3 ho3 hfin hwz
              unfold treeV
              go_wp2_with fail
              exact bodyPost_ret (v := treeV qu qb qd k) (by simp [results, Try.results19, go_sem, s0, s1, s2, treeV]) rfl ⟨qu, qb, qd, vs, up5, deep, rfl, HF.out.1.1, HF.out.2, HF.out.1.2⟩
end Go.Proofs.Ytnkbbjeepdjamaa
