/- loops.Of: a graph's loops, smaller ones first. Conditions: few places; the tree is the graph's; few heads. -/
import Derived.Test.YtnkbbjeepdjamaaLOfP
import Derived.Test.YtnkbbjeepdjamaaFrAll
import Derived.Test.YtnkbbjeepdjamaaFrOf
import Derived.Test.YtnkbbjeepdjamaaSetMoreI
namespace Go.Proofs.Ytnkbbjeepdjamaa
open Go.RowKit
attribute [local go_sem] Oper.semAt_some
theorem nb_src {b : List (List Nat)} {n u v : Nat} (hb : b.length = n) (h : v ∈ nb b u) : u < n := by
  by_cases e : u < n
  · exact e
  · have e2 : b[u]? = none := List.getElem?_eq_none (by omega)
    unfold nb at h
    simp [e2] at h
/-- What is held at the loop's head: in slot 5 the loops, in slot 17 the place. -/
structure LHd (X : World) (g : Nat → List Nat) (n : Nat) (u : Nat → Value) (ds : List Nat) (W : World) : Prop where
  ex : ∃ (h : Nat) (L : List LEl), u 17 = .int .i64 (h : Int) ∧ h ≤ n ∧ LSt X g n h (u 5) L ds W
/-- Between two that are taken. -/
def K2 (Wr : World) (p q h : Nat) (Fx : Nat → Obj → Prop) (Z : Nat → Prop) (g : Nat → List Nat) (n : Nat) (s : AS) (W : World) : Prop := LA Wr Wr.heap.size p q (h : Int) Fx Z s.o s.q s.f W ∧ LJ g h n s.o s.q ∧ 2 * (n - s.o.length) + s.q.length ≤ 900
/-- One was taken. -/
def M2 (Wr : World) (p q h : Nat) (Fx : Nat → Obj → Prop) (Z : Nat → Prop) (g : Nat → List Nat) (n : Nat) (s : AS) (W : World) : Prop :=
  ∃ x Q', s.q = x :: Q' ∧ LA Wr Wr.heap.size p q (h : Int) Fx Z s.o Q' s.f W ∧ LJ g h n s.o (x :: Q') ∧ 2 * (n - s.o.length) + Q'.length + 1 ≤ 900
def ksL : List Nat := [5, 6, 7, 8, 9, 11, 12, 14, 17, 18, 19, 20, 21, 22, 23, 24, 25, 26, 27, 28, 29, 30, 31, 32, 33, 34, 35, 36, 37, 38, 39, 40, 41, 42, 43, 44, 45, 46, 47, 48, 49, 50, 51, 52, 53, 54, 55, 56, 57, 58, 59, 60, 61, 62, 63, 64, 65, 66, 67, 68, 69, 70]
set_option linter.unusedSimpArgs false in
set_option maxRecDepth 100000 in
set_option maxHeartbeats 8000000 in
theorem loops_calls {w : World} {base base' n q1 p1 qu qb qd : Nat} {b a : List (List Nat)} {S : Nat → Prop} {vs : List Value} {up deep : List Int} {bl : List (List Nat)} (hg : Gr w base (.agg #[.slice (some ⟨q1, 0, none⟩) n n, .slice (some ⟨p1, 0, none⟩) n n]) b a S) (hbn : b.length = n) (hf : Few b) (ht : Twin n b a) (hn : n ≤ 300)
    (hal : ∀ (i : Nat) (l : List Nat), a[i]? = some l → l.length ≤ 1048575) (htr : TR w base' n qu qb qd vs up deep bl) (hdt : LT.DTree (nb b) n up deep) (h19 : ∀ hs : List Nat, hs.Nodup → (∀ y ∈ hs, y < n ∧ HB (nb b) y) → hs.length ≤ 19) :
    Calls Try.prog 44 #[.agg #[.slice (some ⟨q1, 0, none⟩) n n, .slice (some ⟨p1, 0, none⟩) n n], treeV qu qb qd n] w fun e w' => ∃ v L, e = .returned v ∧ LRes w.heap.size (nb b) n v L w' ∧ Below w.heap.size w w' := by
  have HG := Lib.hid (And.intro hg (And.intro hbn (And.intro hf (And.intro ht hal))))
  have HT := Lib.hid (And.intro htr hdt)
  have H19 := Lib.hid h19
  clear hg hbn hf ht hal htr hdt h19
  unfold treeV
  refine (callsIn_wide (n := 6)).1 ?_
  refine callsIn_of_wp_marks Try.func44 rfl trivial ?_ rfl
  simp only [Try.ntmps44, List.size_toArray, List.length_cons, List.length_nil, Nat.reduceAdd, Nat.reduceSub, Array.replicate_succ, Array.replicate_zero, List.push_toArray, List.append_toArray, List.nil_append, List.cons_append]
  refine wpIn_wide.2 ?_
  go_wp2_with fail
  generalize hX : World.alloc (World.alloc w _) _ = X
  obtain ⟨y0, y1, yz, yb⟩ := twoB hX
  obtain ⟨B, hB⟩ : ∃ k, w.heap.size = k := ⟨_, rfl⟩
  have HX := Lib.hid (And.intro (HG.out.1.later yb) (And.intro (HT.out.1.later yb) (And.intro (hB ▸ y0) (And.intro (hB ▸ y1) yb))))
  rw [hB]
  clear hX y0 y1 yz yb hB
  refine (len_calls q1 n p1 n n n X).mono ?_
  rintro e Y ⟨rfl, hb⟩
  have HY := Lib.hid (And.intro (HX.out.1.later hb) (And.intro (HX.out.2.1.later hb) (And.intro ((hb.block _ (lt_blk HX.out.2.2.1)).trans HX.out.2.2.1) (And.intro ((hb.block _ (lt_blk HX.out.2.2.2.1)).trans HX.out.2.2.2.1) (below_two HX.out.2.2.2.2 hb)))))
  clear hb HX
  go_wp2_with fail
  refine wp_loopD (LoopI ksL (LHd Y (nb b) n)) (fun b _ => n - (intOf (b.tmps.getD 17 undef)).toNat) (LoopI.start rfl ⟨0, [], rfl, Nat.zero_le _, LSt.start⟩) ?_
  rintro fr Wr ⟨u, ds, rfl, ⟨h, L, hu17, hhn, hst⟩⟩
  simp only [ksL, putL, List.map_cons, List.map_nil, List.foldl_cons, List.foldl_nil, Act.put, List.setIfInBounds_toArray, List.set_cons_zero, List.set_cons_succ]
  obtain ⟨vo, hvo⟩ : ∃ v, u 5 = v := ⟨_, rfl⟩
  rw [hvo] at hst ⊢
  rw [hu17]
  have HST := Lib.hid hst
  clear hst hu17 hvo
  by_cases hh : h < n
  · have pp1 : ((h : Int) < (n : Int)) = True := eq_true (by omega)
    have h0 : 0 ≤ (h : Int) := by omega
    go_wp2_with fail
    have hk := heap_alloc_new' Wr (.cells #[.int .i64 (h : Int)] 3)
    have hbk : Below Wr.heap.size Wr (Wr.alloc (.cells #[.int .i64 (h : Int)] 3)) := (Below.refl _ _).alloc (Nat.le_refl _) _
    refine (ofI_some Wr.heap.size 0 1 1 [(h : Int)] _ rfl (by omega) (fun k y hy => by
      cases k with
      | zero => have hy : (h : Int) = y := by simpa using hy
                rw [cell_of_blk _ _ _ _ _ hk, ← hy]; rfl
      | succ k => simp at hy) (by omega)).mono ?_
    rintro e W1 ⟨v1, rfl, hs1, hb1⟩
    have e1 : ofLI [(h : Int)] = [(h : Int)] := rfl
    rw [e1] at hs1
    have hb1' := below_two hbk hb1
    have hs1' : IsSetI W1 Wr.heap.size v1 [(h : Int)] := ⟨own_base hs1.own (by simp), hs1.srt⟩
    obtain ⟨A1, c1, rfl, -, -⟩ := SI.isset_cellsAt hs1'
    have H1 := Lib.hid (And.intro hs1' hb1')
    clear hk hbk hs1 hb1 hs1' hb1' e1
    go_upto_region 7 with (fail)
    generalize hX : World.alloc (World.alloc W1 _) _ = X
    obtain ⟨z0, z1, zz, zb⟩ := two_bx hX
    obtain ⟨p, hp⟩ : ∃ k, W1.heap.size = k := ⟨_, rfl⟩
    obtain ⟨q, hq⟩ : ∃ k, p + 1 = k := ⟨_, rfl⟩
    have hqn : QI.QueueAt X Wr.heap.size q (fun k => k = q) [] := by
      have h := QI.QueueAt.new (W1.alloc (.cells #[.int .i64 (h : Int), .slice A1 1 c1] 72)) Wr.heap.size (by have := H1.out.2.size; simp; omega)
      rw [World.size_alloc, hp, hq] at h
      rw [← hX]; exact h
    rw [hp] at z0
    have hLA : LA Wr Wr.heap.size p q (h : Int) (fun _ _ => False) (fun _ => False) [(h : Int)] [] (fun k => k = q) X := by
      refine ⟨below_two H1.out.2 zb, fun _ _ e => e.elim, fun _ _ e => e.elim, ⟨_, z0, H1.out.1.only (Only.of_below zb) (fun g hg e => by have := (isset_lt H1.out.1 hg).2; omega), fun g hg => ⟨fun e => ?_, id⟩⟩, hqn, fun _ e => e.elim, ⟨by show ¬ p = q; omega, by have := H1.out.2.size; omega⟩⟩
      have e : g = q := e
      have := (isset_lt H1.out.1 hg).2
      omega
    have HL0 := Lib.hid hLA
    have hYW : ∀ {W : World}, Below Wr.heap.size Wr W → Below Y.heap.size Y W := fun h => HST.out.below.trans (h.mono HST.out.below.size)
    rw [hp, hq]
    clear hX z0 z1 zz zb hp hq hqn hLA H1
    obtain ⟨l, hl⟩ : ∃ l, a[h]? = some l := ⟨_, List.getElem?_eq_getElem (by rw [HG.out.2.2.2.1.la]; exact hh)⟩
    have hll := HG.out.2.2.2.2 h l hl
    have hlm : ∀ v, v ∈ l ↔ v < n ∧ h ∈ nb b v := fun v => by
      have := HG.out.2.2.2.1.mem h v
      rw [List.getD_eq_getElem?_getD, hl] at this
      exact this
    have hah := ahead_in (HY.out.1.later (hYW HL0.out.below)) h l hl (by omega)
    have HAH := Lib.hid hah
    have HLL := Lib.hid (And.intro hlm hll)
    have hlb : l.length ≤ 1048575 := hll
    have hbB := ((hYW HL0.out.below).block _ (lt_blk HY.out.2.2.1)).trans HY.out.2.2.1
    have g0 := cell_of_blk _ _ _ _ _ hbB 0
    have g1 := cell_of_blk _ _ _ _ _ hbB 1
    simp at g0 g1
    clear hl hlm hll hah hbB
    go_wp2_with fail
    clear g0 g1
    refine HAH.out.mono ?_
    rintro e W2 ⟨v', rfl, ho, hb⟩
    have hr1 := RowAt.of_own ho
    obtain ⟨A, c, rfl, _, _, _⟩ := rowAt_slice hr1
    rw [List.length_map] at hr1 ⊢
    have hLA : LA Wr Wr.heap.size p q (h : Int) (fun z o => (Value.slice A l.length c).ownBlock = some z ∧ W2.heap[z]? = some o) (fun z => (Value.slice A l.length c).ownBlock = some z) [(h : Int)] [] (fun k => k = q) W2 :=
      HL0.out.more ((Only.of_below hb).mono (fun k hk e => by omega)) (fun z hz => .inr ⟨(hr1.lt hz).2, (hr1.lt hz).1⟩) (fun z hz => hz.elim) (fun z o hz => .inr ⟨hz.1, hz.2⟩)
    have HR := Lib.hid (And.intro hr1 hLA)
    clear ho hb hr1 hLA HAH HL0
    go_wp2_with fail
    go_loopw [9, 29] (fun bk v wx => ∃ (bb : Bool) (j : Nat), bk = .bool bb ∧ v = .int .i64 (j : Int) ∧ Hid (j ≤ l.length ∧ ∃ O Q' F, LA Wr Wr.heap.size p q (h : Int) (fun z o => (Value.slice A l.length c).ownBlock = some z ∧ W2.heap[z]? = some o) (fun z => (Value.slice A l.length c).ownBlock = some z) O Q' F wx ∧ LP (nb b) h n l j bb O Q')) (fun _ v _ => l.length - (intOf v).toNat)
    case atStart => exact ⟨false, 0, rfl, rfl, Lib.hid ⟨Nat.zero_le _, _, _, _, HR.out.2, LP.start hh⟩⟩
    case round =>
      obtain ⟨wq, rfl⟩ : ∃ x : World, x = wr := ⟨_, rfl⟩
      obtain ⟨bb, j, rfl, rfl, HJ⟩ := hrel
      obtain ⟨hjl, O, Q', F, hla, hlp⟩ := HJ.out
      clear HJ
      by_cases hj : j < l.length
      · have pp2 : ((j : Int) < (l.length : Int)) = True := eq_true (by omega)
        have j0 : 0 ≤ (j : Int) := by omega
        have j1 : (j : Int) < (l.length : Int) := by omega
        obtain ⟨u2, hu⟩ : ∃ u, l[j]? = some u := ⟨_, List.getElem?_eq_getElem hj⟩
        obtain ⟨hun, huh⟩ := (HLL.out.1 u2).1 (List.mem_of_getElem? hu)
        have hrow := HR.out.1.same (w' := wq) (fun g hg => by
          obtain ⟨o, ho⟩ : ∃ o, W2.heap[g]? = some o := ⟨_, Array.getElem?_eq_getElem (HR.out.1.lt hg).1⟩
          exact (hla.fx g o ⟨hg, ho⟩).trans ho.symm)
        obtain ⟨g0, o0, rfl⟩ : ∃ g o, A = some ⟨g, o, none⟩ := by
          rcases HR.out.1 with ⟨h1, h2⟩ | ⟨g, o, cap, cur, h1, _⟩
          · have : l = [] := by simpa using h2
            rw [this] at hj; simp at hj
          · injection h1 with h1; exact ⟨g, o, h1⟩
        have hc3 := hrow.cell j (iv u2) (by rw [List.getElem?_map, hu]; rfl)
        unfold iv at hc3
        have hTr := ((hYW hla.below).block _ (lt_blk HY.out.2.2.2.1)).trans HY.out.2.2.2.1
        have x0 := cell_of_blk _ _ _ _ _ hTr 0
        have x1 := cell_of_blk _ _ _ _ _ hTr 1
        have x2 := cell_of_blk _ _ _ _ _ hTr 2
        simp at x0 x1 x2
        have HJ := Lib.hid (And.intro hla (And.intro hlp (And.intro hu (And.intro huh hun))))
        clear hTr hrow hla hlp hu huh
        go_wp2_with fail
        clear x0 x1 x2 hc3
        refine (over_in (HY.out.2.1.later (hYW HJ.out.1.below)) HT.out.2 h u2 hh hun).mono ?_
        rintro e W3 ⟨⟨r, rfl, hr⟩, hb3⟩
        have HK := Lib.hid (And.intro hr (HJ.out.1.later hb3))
        clear hr hb3
        cases r
        · go_wp2_with fail
          go_roundw
          case rel => exact ⟨bb, j + 1, rfl, by go_num, Lib.hid ⟨by omega, O, Q', F, HK.out.2, HJ.out.2.1.skip HJ.out.2.2.1 (fun e => by have := HK.out.1.2 e; cases this)⟩⟩
          case measure => simp [intOf]; omega
        · have had := HK.out.2.add (u2 : Int) (by have := HJ.out.2.1.len; omega)
          have HAD := Lib.hid had
          clear had
          go_wp2_with fail
          refine HAD.out.mono ?_
          rintro e W4 ⟨rfl, hl4, -⟩
          have H4 := Lib.hid hl4
          clear hl4 HAD
          by_cases hm : (u2 : Int) ∈ O
          · rw [decide_eq_true hm]
            have hin : ins ltI (u2 : Int) O = O := by unfold ins; rw [if_pos hm]
            go_wp2_with fail
            go_roundw
            case rel => exact ⟨true, j + 1, rfl, by go_num, Lib.hid ⟨by omega, O, Q', F, by have := H4.out; rwa [hin] at this, HJ.out.2.1.hit HJ.out.2.2.1 (HK.out.1.1 (by simp)) hm⟩⟩
            case measure => simp [intOf]; omega
          · rw [decide_eq_false hm]
            have hpt := H4.out.put (u2 : Int) (by have := HJ.out.2.1.lq; have := HJ.out.2.1.len; omega)
            have HPT := Lib.hid hpt
            clear hpt
            go_wp2_with fail
            refine HPT.out.mono ?_
            rintro e W5 ⟨⟨b5, rfl⟩, Q5, F5, hl5, hq5, hl6, -⟩
            have H5 := Lib.hid (And.intro hl5 (And.intro hq5 hl6))
            clear hl5 hq5 hl6 HPT
            go_wp2_with fail
            go_roundw
            case rel => exact ⟨true, j + 1, rfl, by go_num, Lib.hid ⟨by omega, _, Q5, F5, H5.out.1, HJ.out.2.1.new (HK.out.2.out.elim fun v k => k.2.1.srt) HJ.out.2.2.1 (HK.out.1.1 (by simp)) HJ.out.2.2.2.1 HJ.out.2.2.2.2 hm H5.out.2.1 H5.out.2.2⟩⟩
            case measure => simp [intOf]; omega
      · obtain rfl : j = l.length := by omega
        have pp2 : ((l.length : Int) < (l.length : Int)) = False := eq_false (by omega)
        have HLQ := Lib.hid hlp.lq
        have HJ := Lib.hid (And.intro hla (hlp.leave (fun v => (HLL.out.1 v).trans ⟨fun e => e.2, fun e => ⟨nb_src HG.out.2.1 e, e⟩⟩)))
        have hdr := QI.drain q wq
        have HD := Lib.hid hdr
        clear hla hlp hdr
        go_wp2_with fail
        refine HD.out.mono ?_
        rintro e W3 ⟨rfl, hW3⟩
        obtain ⟨BD, hBD⟩ : ∃ k, wq.heap.size = k := ⟨_, rfl⟩
        obtain ⟨DO, hDO⟩ : ∃ o : Obj, o = .cells #[.pointer (some ⟨q, 0, none⟩)] 107 := ⟨_, rfl⟩
        have hF2 : LA Wr Wr.heap.size p q (h : Int) (FxP (fun _ _ => False) BD DO) (ZP (fun _ => False) BD) O Q' F W3 := by
          have hb := heap_alloc_new' wq DO
          rw [← hDO] at hW3
          refine (HJ.out.1.less (Fx' := fun _ _ => False) (Z' := fun _ => False) (fun _ e => e.elim) (fun _ _ e => e.elim)).more (W' := W3) (by rw [hW3]; exact Only.alloc _ _ _) ?_ (fun z hz => .inl hz) ?_
          · rintro z (h | rfl)
            · exact .inl h
            · exact .inr ⟨by omega, by rw [hW3]; simp; omega⟩
          · rintro z o (h | ⟨rfl, rfl⟩)
            · exact .inl h
            · exact .inr ⟨.inr rfl, by rw [hW3, ← hBD]; exact hb⟩
        have H3 := Lib.hid (And.intro hF2 hDO)
        have HLJ := Lib.hid HJ.out.2
        rw [hBD]
        clear hF2 hDO hW3 hBD HD HJ HR HLL
        go_wp2_with fail
        obtain ⟨D2, hD2⟩ : ∃ k, W3.heap.size = k := ⟨_, rfl⟩
        obtain ⟨Fx2, hFx2⟩ : ∃ f, FxP (fun _ _ => False) BD DO = f := ⟨_, rfl⟩
        obtain ⟨Z2, hZ2⟩ : ∃ f, ZP (fun _ => False) BD = f := ⟨_, rfl⟩
        rw [hFx2, hZ2] at H3
        have hfx2 : Fx2 BD (.cells #[.pointer (some ⟨q, 0, none⟩)] 107) := by
          rw [← hFx2]
          exact .inr ⟨rfl, H3.out.2.symm⟩
        have hlt2 : ∀ z, Z2 z → z < D2 := fun z hz => hD2 ▸ (H3.out.1.rsv z hz).1
        have hF2 := Lib.hid (And.intro hfx2 (And.intro hlt2 (show ∀ d o, D2 ≤ d → ¬ Fx2 d o from fun d o hd e => by have := hlt2 d (H3.out.1.fz d o e); omega)))
        have H4 := Lib.hid H3.out.1
        have hbD2 : Wr.heap.size ≤ D2 := hD2 ▸ H3.out.1.lt.1
        clear hFx2 hZ2 hfx2 hlt2 H3
        refine (wpIn_wide (n := 6)).1 ?_
        generalize hact : (Act.mk _ _ : Act) = a1
        refine wpIn_rg_out (n := 6) rfl (by omega) (gf := 80) (lb := #[.pointer (some ⟨BD, 0, none⟩)]) (by rw [← hact]; rfl) trivial (enters_of Try.func80 (by kernel_rfl) rfl)
          (fun _ => rfl) (hseq := QI.drain_iter 5 BD _ q Wr.heap.size (fun s => s.f) (fun s => s.q) (fun s : AS => 2 * (n - s.o.length) + s.q.length) (K2 Wr p q h Fx2 (ZP (ZP Z2 D2) (D2 + 1)) (nb b) n) ⟨O, Q', F⟩ ?hB2 (fun s W h => h.1.que))
          (M2 Wr p q h Fx2 (ZP (ZP Z2 D2) (D2 + 1)) (nb b) n) (fun _ _ => False)
          ?hJ2 ?hYd2 (fun _ _ _ h _ => h.elim) ?hmv2 ?h02
          (fun s a' _ => ∃ x Q', s.q = x :: Q' ∧ a' = Act.mk ((a1.tmps.setIfInBounds 44 (.int .i64 x)).setIfInBounds 12 (.int .i64 x)) []) (fun _ _ _ _ h _ => h) ?assign2 ?body2 ?done2 (fun _ _ h _ => h.elim)
        case hB2 => exact fun s W h => cell_of_blk _ _ _ _ _ (h.1.fx BD _ hF2.out.1) 0
        case hJ2 =>
          rw [hD2]
          intro s A' B' hj ho
          exact ⟨hj.1.only ho (fun j hj => .inl ⟨by subst hj; exact .inr rfl, by omega, fun o => hF2.out.2.2 j o (by omega)⟩), hj.2⟩
        case hYd2 =>
          rw [hD2]
          rintro s A' B' ⟨x, Q', e, hj, hr⟩ ho
          exact ⟨x, Q', e, hj.only ho (fun j hj => .inl ⟨by subst hj; exact .inr rfl, by omega, fun o => hF2.out.2.2 j o (by omega)⟩), hr⟩
        case hmv2 =>
          rw [hD2]
          rintro ⟨O, Qs, F'⟩ A' B' ⟨hj, haj, hms⟩ ⟨hne, hq, ho⟩ _
          simp only at hj haj hms hne hq ho
          cases Qs with
          | nil => exact absurd rfl hne
          | cons x Q' =>
            obtain ⟨k1, k2⟩ := hj.take hq ho
            exact ⟨⟨x, Q', rfl, k1, haj, by simp at hms; omega⟩, k2 D2 (.inl (.inr rfl)), k2 (D2 + 1) (.inr rfl)⟩
        case h02 =>
          rw [hD2]
          intro W ho hlt
          refine ⟨H4.out.more ho ?_ (fun z hz => .inl (.inl hz)) (fun z o hz => .inl hz), HLJ.out.1, by have := HLQ.out; have := HLJ.out.1.len; simp; omega⟩
          rintro z ((h | rfl) | rfl)
          · exact .inl h
          · exact .inr ⟨by omega, by omega⟩
          · exact .inr ⟨by omega, by omega⟩
        case assign2 =>
          rintro s W K ⟨x, Q', e, hj, hr⟩ _ hK
          have HY := Lib.hid e
          simp only [e, List.headD_cons]
          clear e hj hr
          subst hact
          gi_wp2
          exact hK _ _ (Only.refl _ _) ⟨x, Q', HY.out, rfl⟩
        case body2 =>
          rw [hD2]
          rintro ⟨O, Qs, F'⟩ a' W' ⟨x0, Q0', e0, hj, haj, hms⟩ ⟨x, Q', e, rfl⟩ hDd ⟨r, hDl⟩
          simp only at e0 e hj haj hms
          have HM0 := Lib.hid hms
          clear hms
          obtain ⟨rfl, rfl⟩ : x0 = x ∧ Q0' = Q' := by rw [e0] at e; simpa using e
          subst hact
          simp only [List.setIfInBounds_toArray, List.set_cons_zero, List.set_cons_succ]
          obtain ⟨v, rfl, hvn, hvh, hvb, -⟩ := haj.enter (l := [])
          obtain ⟨l, hl⟩ : ∃ l, a[v]? = some l := ⟨_, List.getElem?_eq_getElem (by rw [HG.out.2.2.2.1.la]; exact hvn)⟩
          have hli : LI (nb b) h n v l (2 * (n - O.length) + Q0'.length) 0 O Q0' := by
            obtain ⟨v2, e2, _, _, _, k⟩ := haj.enter (l := l)
            have e3 := Int.natCast_inj.1 e2
            rw [e3]; exact k
          have hlb2 := HG.out.2.2.2.2 v l hl
          have hlm : ∀ u, u ∈ l ↔ u < n ∧ v ∈ nb b u := fun u => by
            have := HG.out.2.2.2.1.mem v u
            rw [List.getD_eq_getElem?_getD, hl] at this
            exact this
          have hah := ahead_in (HY.out.1.later (hYW hj.below)) v l hl (by omega)
          have HAH := Lib.hid hah
          have hbB := ((hYW hj.below).block _ (lt_blk HY.out.2.2.1)).trans HY.out.2.2.1
          have g0 := cell_of_blk _ _ _ _ _ hbB 0
          have g1 := cell_of_blk _ _ _ _ _ hbB 1
          simp at g0 g1
          have HJ := Lib.hid (And.intro hj (And.intro hDd hDl))
          have HI := Lib.hid (And.intro hli (And.intro hlm (And.intro hvh hvb)))
          have HE := Lib.hid e0
          clear hj haj hDd hDl e0 e hah hbB hl hlm hli hvh hvb
          gi_wp2_with fail
          clear g0 g1
          refine ⟨trivial, (CallsIn.inRound _ (callsIn_wide.2 HAH.out)).mono ?_⟩
          rintro e W4 ⟨v', rfl, ho, hb⟩
          have hr1 := RowAt.of_own ho
          obtain ⟨A, c, rfl, -, -, -⟩ := rowAt_slice hr1
          rw [List.length_map] at hr1 ⊢
          obtain ⟨Fx3, hFx3⟩ : ∃ f : Nat → Obj → Prop, (fun z o => Fx2 z o ∨ ((z = D2 ∨ z = D2 + 1 ∨ (Value.slice A l.length c).ownBlock = some z) ∧ W4.heap[z]? = some o)) = f := ⟨_, rfl⟩
          obtain ⟨Z3, hZ3⟩ : ∃ f : Nat → Prop, (fun z => ZP (ZP Z2 D2) (D2 + 1) z ∨ (Value.slice A l.length c).ownBlock = some z) = f := ⟨_, rfl⟩
          have hLA : LA Wr Wr.heap.size p q (h : Int) Fx3 Z3 O Q0' F' W4 := by
            rw [← hFx3, ← hZ3]
            refine HJ.out.1.more ((Only.of_below hb).mono (fun k hk e => by omega)) (fun z hz => hz.imp id (fun e => ⟨(hr1.lt e).2, (hr1.lt e).1⟩)) (fun z hz => .inl hz) (fun z o hz => hz.imp id (fun e => ⟨?_, e.2⟩))
            rcases e.1 with e | e | e
            · exact .inl (.inl (.inr e))
            · exact .inl (.inr e)
            · exact .inr e
          have kD := (hb.block D2 (lt_blk HJ.out.2.1)).trans HJ.out.2.1
          have kL := (hb.block (D2 + 1) (lt_blk HJ.out.2.2)).trans HJ.out.2.2
          have hfx : Fx3 D2 (.deferred (some [])) ∧ Fx3 (D2 + 1) (.loop r) ∧ (∀ z o, (Value.slice A l.length c).ownBlock = some z → W4.heap[z]? = some o → Fx3 z o) ∧ (∀ z o, Fx2 z o → Fx3 z o) := by
            rw [← hFx3]
            exact ⟨.inr ⟨.inl rfl, kD⟩, .inr ⟨.inr (.inl rfl), kL⟩, fun z o h1 h2 => .inr ⟨.inr (.inr h1), h2⟩, fun z o h => .inl h⟩
          have hz3 : ∀ z, ZP (ZP Z2 D2) (D2 + 1) z → Z3 z := fun z hz => by rw [← hZ3]; exact .inl hz
          have HR := Lib.hid (And.intro hr1 (And.intro hLA (And.intro hfx hz3)))
          clear ho hb hr1 hLA kD kL hfx hz3 hFx3 hZ3 HAH
          gi_wp2_with fail
          gi_loopw [49] (fun w1 wx => ∃ j : Nat, w1 = .int .i64 (j : Int) ∧ Hid (j ≤ l.length ∧ ∃ O1 Q1 F1, LA Wr Wr.heap.size p q (h : Int) Fx3 Z3 O1 Q1 F1 wx ∧ LI (nb b) h n v l (2 * (n - O.length) + Q0'.length) j O1 Q1)) (fun w1 _ => l.length - (intOf w1).toNat)
          case atStart => exact ⟨0, rfl, Lib.hid ⟨Nat.zero_le _, _, _, _, HR.out.2.1, HI.out.1⟩⟩
          case round =>
            obtain ⟨wz, rfl⟩ : ∃ x : World, x = wr := ⟨_, rfl⟩
            obtain ⟨j, rfl, HL⟩ := hrel
            obtain ⟨hjl2, O1, Q1, F1, hla, hlp⟩ := HL.out
            clear HL
            by_cases hj : j < l.length
            · have pp3 : ((j : Int) < (l.length : Int)) = True := eq_true (by omega)
              have j0 : 0 ≤ (j : Int) := by omega
              have j1 : (j : Int) < (l.length : Int) := by omega
              obtain ⟨u2, hu⟩ : ∃ u, l[j]? = some u := ⟨_, List.getElem?_eq_getElem hj⟩
              obtain ⟨hun, huh⟩ := (HI.out.2.1 u2).1 (List.mem_of_getElem? hu)
              have hrow := HR.out.1.same (w' := wz) (fun g hg => by
                obtain ⟨o, ho⟩ : ∃ o, W4.heap[g]? = some o := ⟨_, Array.getElem?_eq_getElem (HR.out.1.lt hg).1⟩
                exact (hla.fx g o (HR.out.2.2.1.2.2.1 g o hg ho)).trans ho.symm)
              obtain ⟨g0, o0, rfl⟩ : ∃ g o, A = some ⟨g, o, none⟩ := by
                rcases HR.out.1 with ⟨h1, h2⟩ | ⟨g, o, cap, cur, h1, _⟩
                · have : l = [] := by simpa using h2
                  rw [this] at hj; simp at hj
                · injection h1 with h1; exact ⟨g, o, h1⟩
              have hc3 := hrow.cell j (iv u2) (by rw [List.getElem?_map, hu]; rfl)
              unfold iv at hc3
              have hTr := ((hYW hla.below).block _ (lt_blk HY.out.2.2.2.1)).trans HY.out.2.2.2.1
              have x0 := cell_of_blk _ _ _ _ _ hTr 0
              have x1 := cell_of_blk _ _ _ _ _ hTr 1
              have x2 := cell_of_blk _ _ _ _ _ hTr 2
              simp at x0 x1 x2
              have HL := Lib.hid (And.intro hla (And.intro hlp (And.intro hu (And.intro huh hun))))
              clear hTr hrow hla hlp hu huh
              gi_wp2_with fail
              clear x0 x1 x2 hc3
              refine ⟨trivial, (CallsIn.inRound _ (callsIn_wide.2 (over_in (HY.out.2.1.later (hYW HL.out.1.below)) HT.out.2 u2 u2 hun hun))).mono ?_⟩
              rintro e W5 ⟨⟨rr, rfl, hr⟩, hb3⟩
              have HK := Lib.hid (And.intro hr (HL.out.1.later hb3))
              clear hr hb3
              cases rr
              · gi_wp2_with fail
                refine ⟨trivial, ?_⟩
                gi_wp2_with fail
                go_roundw
                case rel => exact ⟨j + 1, by go_num, Lib.hid ⟨by omega, O1, Q1, F1, HK.out.2, HL.out.2.1.skip HL.out.2.2.1 (fun e => by have := HK.out.1.2 e; cases this)⟩⟩
                case measure => simp [intOf]; omega
              · have had := HK.out.2.add (u2 : Int) (by have := HL.out.2.1.len; omega)
                have HAD := Lib.hid had
                clear had
                gi_wp2_with fail
                refine ⟨trivial, (CallsIn.inRound _ (callsIn_wide.2 HAD.out)).mono ?_⟩
                rintro e W6 ⟨rfl, hl4, -⟩
                have H6 := Lib.hid hl4
                clear hl4 HAD
                by_cases hm : (u2 : Int) ∈ O1
                · rw [decide_eq_true hm]
                  have hin : ins ltI (u2 : Int) O1 = O1 := by unfold ins; rw [if_pos hm]
                  gi_wp2_with fail
                  go_roundw
                  case rel => exact ⟨j + 1, by go_num, Lib.hid ⟨by omega, O1, Q1, F1, by have := H6.out; rwa [hin] at this, HL.out.2.1.skip HL.out.2.2.1 (fun _ => hm)⟩⟩
                  case measure => simp [intOf]; omega
                · rw [decide_eq_false hm]
                  have hpt := H6.out.put (u2 : Int) (by have := HL.out.2.1.meas; have := HM0.out; omega)
                  have HPT := Lib.hid hpt
                  clear hpt
                  gi_wp2_with fail
                  refine ⟨trivial, (CallsIn.inRound _ (callsIn_wide.2 HPT.out)).mono ?_⟩
                  rintro e W7 ⟨⟨b5, rfl⟩, Q5, F5, hl5, hq5, hl6, -⟩
                  have H7 := Lib.hid (And.intro hl5 (And.intro hq5 hl6))
                  clear hl5 hq5 hl6 HPT
                  gi_wp2_with fail
                  go_roundw
                  case rel => exact ⟨j + 1, by go_num, Lib.hid ⟨by omega, _, Q5, F5, H7.out.1, HL.out.2.1.new (HK.out.2.out.elim fun v k => k.2.1.srt) HL.out.2.2.1 (HK.out.1.1 (by simp)) HI.out.2.2.1 HI.out.2.2.2 HL.out.2.2.2.1 HL.out.2.2.2.2 hm H7.out.2.1 H7.out.2.2⟩⟩
                  case measure => simp [intOf]; omega
            · obtain rfl : j = l.length := by omega
              have pp3 : ((l.length : Int) < (l.length : Int)) = False := eq_false (by omega)
              have HL := Lib.hid (And.intro hla (hlp.leave (fun u e => (HI.out.2.1 u).2 ⟨nb_src HG.out.2.1 e, e⟩)))
              have HM := Lib.hid hlp.meas
              clear hla hlp
              gi_wp2_with fail
              refine ⟨(HL.out.1.fx D2 _ HR.out.2.2.1.1).trans HJ.out.2.1.symm, (HL.out.1.fx (D2 + 1) _ HR.out.2.2.1.2.1).trans HJ.out.2.2.symm, ⟨O1, Q1, F1⟩, ?_, HL.out.1.less HR.out.2.2.2 (fun z o hz => ⟨HR.out.2.2.1.2.2.2 z o hz, ?_⟩), HL.out.2, by have := HM.out; have := HM0.out; simp; omega⟩
              · have := HM.out
                rw [HE.out]
                simp
                omega
              · exact .inl (.inl (H4.out.fz z o hz))
        case done2 =>
          rw [hD2]
          rintro ⟨O2, Q2, F2⟩ W ⟨hj, haj, _⟩ hk hDd
          simp only at hj haj hk
          subst hk
          subst hact
          have hst := HST.out.later hj.below
          have hst1 := hst.mark hDd (Nat.le_trans HST.out.below.size hbD2) (fun e => by have := HST.out.mks.lt e; omega)
          have HJ := Lib.hid (And.intro hj (And.intro haj hst1))
          clear hj haj hDd hst hst1
          cases bb
          · have hsk := HJ.out.2.2.skip (fun e => by have := HLJ.out.2.2 e; cases this)
            have HSK := Lib.hid hsk
            clear hsk
            go_wp2_with fail
            refine ⟨LoopI.mk (ds := D2 :: ds) (by kernel_rfl) ⟨h + 1, L, by simp, by omega, HSK.out⟩, ?_⟩
            simp [intOf]
            omega
          · obtain ⟨v8, hbx, hs8, -⟩ := HJ.out.1.out
            obtain ⟨A8, c8, rfl, -, -⟩ := SI.isset_cellsAt hs8
            have hO8 := HJ.out.2.1.len
            have hset : LSet W Y.heap.size (nb b) n ⟨(h : Int), A8, O2.length, c8⟩ := by
              refine ⟨O2, h, ⟨own_base hs8.own HST.out.below.size, hs8.srt⟩, rfl, hO8, rfl, fun x => ⟨fun hx => ?_, fun ⟨z, e, hz⟩ => ?_⟩⟩
              · obtain ⟨y, e, _, hy⟩ := HJ.out.2.1.sub x hx
                exact ⟨y, e, hy⟩
              · rw [e]; exact (HJ.out.2.1.fin z).2 hz
            have x0 := cell_of_blk _ _ _ _ _ hbx 0
            have x1 := cell_of_blk _ _ _ _ _ hbx 1
            simp at x0 x1
            have hnb := heap_alloc_new' W (.cells #[.int .i64 (h : Int), .slice A8 O2.length c8] 72)
            have hbn : Below W.heap.size W (W.alloc (.cells #[.int .i64 (h : Int), .slice A8 O2.length c8] 72)) := (Below.refl _ _).alloc (Nat.le_refl _) _
            obtain ⟨v', w5, hrn, k1, k2⟩ := ownL_append (HJ.out.2.2.row.later hbn) ⟨W.heap.size, 0, none⟩ ⟨(h : Int), A8, O2.length, c8⟩ (cell_of_blk _ _ _ _ _ hnb 0) (cell_of_blk _ _ _ _ _ hnb 1) (Nat.le_trans HJ.out.2.2.below.size hbn.size) (by have := HJ.out.2.2.lh; omega)
            obtain ⟨Ao, co, rfl, -⟩ := HJ.out.2.2.row.slice
            have hb : HB (nb b) h := HLJ.out.2.1 rfl
            have hpu := (HJ.out.2.2.later hbn).push hb (e := ⟨(h : Int), A8, O2.length, c8⟩) rfl (hset.only (Only.of_below hbn) (fun k hk e => by have := (hset.lt hk).2; omega)) k1 k2
            have HPU := Lib.hid hpu
            have HRN := Lib.hid hrn
            clear hbx hs8 hset hnb hbn hrn k1 k2 hb hpu hO8
            go_wp2_with (first | (at_builtin; refine Lib.wpList_append_run _ rfl _ _ _ _ rfl _ _ rfl rfl _ _ HRN.out ?_) | fail)
            clear x0 x1
            refine ⟨LoopI.mk (ds := D2 :: ds) (by kernel_rfl) ⟨h + 1, _, by simp, by omega, HPU.out⟩, ?_⟩
            simp [intOf]
            omega
  · obtain rfl : h = n := by omega
    have pp1 : ((h : Int) < (h : Int)) = False := eq_false (by omega)
    have hl19 : L.length ≤ 19 := by
      have hh2 : ∀ e ∈ L, ∃ y : Nat, e.h = (y : Int) := fun e he => by
        obtain ⟨xs, y, _, _, _, hy, _⟩ := HST.out.sets e he
        exact ⟨y, hy⟩
      have h1 := H19.out _ (nodup_heads HST.out.asc hh2) (fun y hy => by
        obtain ⟨e, he, e2⟩ := List.mem_map.1 hy
        obtain ⟨z, hz⟩ := hh2 e he
        refine (HST.out.heads y).1 ⟨e, he, ?_⟩
        rw [hz] at e2 ⊢
        simp at e2
        rw [e2])
      simpa using h1
    have hYb : Below w.heap.size w Wr := HY.out.2.2.2.2.trans (HST.out.below.mono HY.out.2.2.2.2.size)
    by_cases hL : L = []
    · subst hL
      obtain rfl := HST.out.nn rfl
      go_wp2_with fail
      refine (sorted_none Wr).mono ?_
      rintro e W1 ⟨⟨v, rfl⟩, rfl⟩
      go_wp2_with fail
      refine Marks.leave (by simp) (lo := Y.heap.size) ds _ HST.out.mks (fun w' ho => ?_)
      refine ⟨.slice none 0 0, by simp [results, Try.results44, go_sem], _, [], rfl, HST.out.empty, ?_⟩
      exact hYb.trans (ho.below hYb.size (fun k hk e => by have := (HST.out.mks.at_ k e).1; have := HY.out.2.2.2.2.size; omega))
    · obtain ⟨g, c, rfl, hrow, hgl, hgb⟩ := HST.out.row.row hL (fun e he => by
        obtain ⟨xs, y, _, h2, h3, _⟩ := HST.out.sets e he
        omega)
      have hsc := sorted_calls g L.length c L rfl hl19 (by cases L with | nil => exact absurd rfl hL | cons a t => simp) Wr hrow HST.out.asc
      have HSC := Lib.hid hsc
      clear hsc hrow
      go_wp2_with fail
      refine HSC.out.mono ?_
      rintro e W1 ⟨⟨v, rfl⟩, L', hr1, hp1, hs1, ho1⟩
      obtain ⟨_, _, cur, hgc⟩ := HST.out.row.blk (g := g) rfl
      have hmk := HST.out.mks.only ho1 (fun D hD e => HST.out.mks.ne_cells hgc (e ▸ hD))
      have HQ := Lib.hid (And.intro hr1 (And.intro hp1 (And.intro hs1 (And.intro ho1 hmk))))
      clear hr1 hp1 hs1 ho1 hmk hgc HSC
      go_wp2_with fail
      refine Marks.leave (by simp) (lo := Y.heap.size) ds _ HQ.out.2.2.2.2 (fun w' ho => ?_)
      refine ⟨.slice (some ⟨g, 0, none⟩) L.length c, by simp [results, Try.results44, go_sem], _, L', rfl, HST.out.fin HY.out.2.2.2.2.size HQ.out.1 HQ.out.2.1 HQ.out.2.2.1 HQ.out.2.2.2.1 ho, ?_⟩
      exact (hYb.trans (HQ.out.2.2.2.1.below hYb.size (fun k hk e => by have := HY.out.2.2.2.2.size; omega))).trans (ho.below (Nat.le_trans hYb.size HQ.out.2.2.2.1.size) (fun k hk e => by have := (HQ.out.2.2.2.2.at_ k e).1; have := HY.out.2.2.2.2.size; omega))
end Go.Proofs.Ytnkbbjeepdjamaa
