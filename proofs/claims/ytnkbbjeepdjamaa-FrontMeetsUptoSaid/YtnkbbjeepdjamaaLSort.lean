/- slices.SortStableFunc on loops: fewer places first, of as many in their order. Conditions: few loops; their row lies; heads rise. -/
import Derived.Test.YtnkbbjeepdjamaaLCmp
import Derived.LoopN
namespace Go.Proofs.Ytnkbbjeepdjamaa
open Go.RowKit
/-- The loops' row. -/
structure LRow (w : World) (g : Nat) (L : List LEl) : Prop where
  at_ : ∀ i e, L[i]? = some e → w.cell? ⟨g, 2 * i, none⟩ = some (.int .i64 e.h) ∧ w.cell? ⟨g, 2 * i + 1, none⟩ = some e.v
  few : ∀ e ∈ L, e.k ≤ 1048576
  fz : ∀ k, w.frozen? ⟨g, k, none⟩ = false
/-- What the test reads. -/
def SwS (g j m : Nat) (xh : Int) (xA : Option Addr) (xk xc : Nat) (yh : Int) (yA : Option Addr) (yk yc : Nat) (w Y : World) : Prop :=
  Y.cell? ⟨g, m * 2, none⟩ = some (.int .i64 xh) ∧ Y.cell? ⟨g, m * 2 + 1, none⟩ = some (.slice xA xk xc) ∧ Y.cell? ⟨g, j * 2, none⟩ = some (.int .i64 yh) ∧ Y.cell? ⟨g, j * 2 + 1, none⟩ = some (.slice yA yk yc) ∧ Hid (Below w.heap.size w Y)
theorem SwS.later {g j m : Nat} {xh : Int} {xA : Option Addr} {xk xc : Nat} {yh : Int} {yA : Option Addr} {yk yc : Nat} {w Y Y' : World} (h : SwS g j m xh xA xk xc yh yA yk yc w Y) (hb : Below Y.heap.size Y Y') : SwS g j m xh xA xk xc yh yA yk yc w Y' := by
  obtain ⟨h1, h2, h3, h4, h5⟩ := h
  have k : ∀ {p : Addr} {v : Value}, Y.cell? p = some v → Y'.cell? p = some v := fun hc => (hb.cell (World.block_lt_of_cell? Y _ hc)).trans hc
  exact ⟨k h1, k h2, k h3, k h4, Lib.hid (below_two h5.out hb)⟩
def RLo (a b : LEl) : Prop := a.k < b.k ∨ (a.k = b.k ∧ a.h < b.h)
theorem LRow.later {w w' : World} {g : Nat} {L : List LEl} (h : LRow w g L) (hg : g < w.heap.size) (hb : Below w.heap.size w w') : LRow w' g L :=
  ⟨fun i e he => ⟨(hb.cell (p := ⟨g, 2 * i, none⟩) hg).trans (h.at_ i e he).1, (hb.cell (p := ⟨g, 2 * i + 1, none⟩) hg).trans (h.at_ i e he).2⟩, h.few, fun k => (World.frozen?_of_block (w := w) (a := ⟨g, k, none⟩) (hb.block g hg)).trans (h.fz k)⟩
theorem drew_cell (w : World) (a : Addr) : w.drew.cell? a = w.cell? a := rfl
theorem drew_frozen (w : World) (a : Addr) : w.drew.frozen? a = w.frozen? a := rfl
theorem cset {w : World} {p a : Addr} {v : Value} (h : (w.cell? p).isSome = true) : (w.setCell p v).cell? a = if a = p then some v else w.cell? a := by
  by_cases e : a = p
  · subst e; rw [if_pos rfl]; exact World.cell?_setCell_same' w a v h
  · rw [if_neg e]; exact World.cell?_setCell_other w p a v (fun e' => e e'.symm)
theorem csome {w : World} {p a : Addr} {v : Value} (h : (w.cell? a).isSome = true) : ((w.setCell p v).cell? a).isSome = true := by
  by_cases e : a = p
  · subst e; rw [World.cell?_setCell_same' w a v h]; rfl
  · rw [World.cell?_setCell_other w p a v (fun e' => e e'.symm)]; exact h
set_option maxHeartbeats 1000000 in
theorem LRow.swap {w : World} {g j m : Nat} {x y : LEl} {A' R : List LEl} (h : LRow w g (A' ++ [y] ++ x :: R)) (hA : A'.length = j) (hm : j + 1 = m) :
    LRow (((((w.setCell ⟨g, m * 2, none⟩ (.int .i64 y.h)).setCell ⟨g, m * 2 + 1, none⟩ y.v).setCell ⟨g, j * 2, none⟩ (.int .i64 x.h)).setCell ⟨g, j * 2 + 1, none⟩ x.v).drew) g (A' ++ x :: y :: R) := by
  obtain ⟨cy1, cy2⟩ := h.at_ j y (by simp [hA])
  obtain ⟨cx1, cx2⟩ := h.at_ m x (by rw [← hm]; simp [hA])
  rw [Nat.mul_comm 2 j] at cy1 cy2
  rw [Nat.mul_comm 2 m] at cx1 cx2
  have key : ∀ o, (((((w.setCell ⟨g, m * 2, none⟩ (.int .i64 y.h)).setCell ⟨g, m * 2 + 1, none⟩ y.v).setCell ⟨g, j * 2, none⟩ (.int .i64 x.h)).setCell ⟨g, j * 2 + 1, none⟩ x.v).drew).cell? ⟨g, o, none⟩ =
      if o = j * 2 + 1 then some x.v else if o = j * 2 then some (.int .i64 x.h) else if o = m * 2 + 1 then some y.v else if o = m * 2 then some (.int .i64 y.h) else w.cell? ⟨g, o, none⟩ := fun o => by
    rw [drew_cell]
    rw [cset (csome (csome (csome (by rw [cy2]; rfl)))), cset (csome (csome (by rw [cy1]; rfl))), cset (csome (by rw [cx2]; rfl)), cset (by rw [cx1]; rfl)]
    simp only [Addr.mk.injEq, true_and, and_true]
  refine ⟨fun i e he => ?_, fun e he => ?_, fun k => ?_⟩
  · rw [key, key]
    by_cases e1 : i = j
    · subst e1
      have : e = x := by rw [List.getElem?_append_right (by omega), hA] at he; simpa using he.symm
      subst this
      rw [if_neg (by omega), if_pos (by omega), if_pos (by omega)]
      exact ⟨rfl, rfl⟩
    · by_cases e2 : i = m
      · subst e2
        have : e = y := by
          rw [List.getElem?_append_right (by omega), hA, show i - j = 1 by omega] at he
          simpa using he.symm
        subst this
        rw [if_neg (by omega), if_neg (by omega), if_neg (by omega), if_pos (by omega), if_neg (by omega), if_neg (by omega), if_pos (by omega)]
        exact ⟨rfl, rfl⟩
      · rw [if_neg (by omega), if_neg (by omega), if_neg (by omega), if_neg (by omega), if_neg (by omega), if_neg (by omega), if_neg (by omega), if_neg (by omega)]
        refine h.at_ i e ?_
        rcases Nat.lt_or_ge i j with hl | hl
        · rw [List.getElem?_append_left (by omega)] at he
          rw [List.append_assoc, List.getElem?_append_left (by omega)]
          exact he
        · rw [List.getElem?_append_right (by omega), hA] at he
          rw [List.append_assoc, List.getElem?_append_right (by omega), hA]
          obtain ⟨t, ht⟩ : ∃ t, i - j = t + 2 := ⟨i - j - 2, by omega⟩
          rw [ht] at he ⊢
          simpa using he
  · refine h.few e ?_
    simp only [List.mem_append, List.mem_cons] at he ⊢
    rcases he with he | he | he | he
    · exact .inl (.inl he)
    · exact .inr (.inl he)
    · exact .inl (.inr (.inl he))
    · exact .inr (.inr he)
  · have : ∀ (W : World) (p a : Addr) (v : Value), (W.setCell p v).frozen? a = W.frozen? a := fun W p a v => by simp
    rw [drew_frozen, this, this, this, this]
    exact h.fz k
theorem only_swap (w : World) (g a b c d : Nat) (v1 v2 v3 v4 : Value) : Only (fun k => k = g) w (((((w.setCell ⟨g, a, none⟩ v1).setCell ⟨g, b, none⟩ v2).setCell ⟨g, c, none⟩ v3).setCell ⟨g, d, none⟩ v4).drew) :=
  ((((Only.setCell w ⟨g, a, none⟩ v1).trans (Only.setCell _ ⟨g, b, none⟩ v2) (fun _ _ h => h)).trans (Only.setCell _ ⟨g, c, none⟩ v3) (fun _ _ h => h)).trans (Only.setCell _ ⟨g, d, none⟩ v4) (fun _ _ h => h)).trans (Only.drew (fun _ => False) _) (fun _ _ h => h.elim)
/-- The one that was put in stands right. -/
theorem ins_right {A B : List LEl} {x : LEl} (hs : (A ++ B).Pairwise RLo) (hA : ∀ a ∈ A, RLo a x) (hB : ∀ y ∈ B, x.k < y.k) : (A ++ x :: B).Pairwise RLo := by
  rw [List.pairwise_append] at hs ⊢
  refine ⟨hs.1, List.pairwise_cons.2 ⟨fun y hy => .inl (hB y hy), hs.2.1⟩, fun a ha z hz => ?_⟩
  rcases List.mem_cons.1 hz with rfl | hz
  · exact hA a ha
  · exact hs.2.2 a ha z hz
theorem RLo.trans {a b c : LEl} (h : RLo a b) (k : RLo b c) : RLo a c := by
  unfold RLo at *
  omega
theorem ins_round {w wo w1 : World} {g n i : Nat} {S A B C L0 : List LEl} {x : LEl} (ho : 1 ≤ i ∧ S.length = i ∧ (S ++ x :: C).Perm L0 ∧ S.Pairwise RLo ∧ (∀ s ∈ S, ∀ z ∈ x :: C, s.h < z.h) ∧ (x :: C).Pairwise (fun a b => a.h < b.h) ∧ Only (fun k => k = g) w wo)
    (hAB : S = A ++ B) (hs : (A ++ B).Pairwise RLo) (hA : ∀ a ∈ A, RLo a x) (hB : ∀ y ∈ B, x.k < y.k) (hr : LRow w1 g (A ++ x :: (B ++ C))) (hi : i < n) (hon : Only (fun k => k = g) w w1) :
    1 ≤ i + 1 ∧ i + 1 ≤ n ∧ ∃ S C, S.length = i + 1 ∧ (S ++ C).Perm L0 ∧ LRow w1 g (S ++ C) ∧ S.Pairwise RLo ∧ (∀ s ∈ S, ∀ x ∈ C, s.h < x.h) ∧ C.Pairwise (fun a b => a.h < b.h) ∧ Only (fun k => k = g) w w1 := by
  obtain ⟨h1, h2, h3, h4, h5, h6, _⟩ := ho
  subst hAB
  refine ⟨by omega, by omega, A ++ x :: B, C, by simp at h2 ⊢; omega, ?_, by simpa using hr, ins_right hs hA hB, fun s hsm z hz => ?_, (List.pairwise_cons.1 h6).2, hon⟩
  · refine List.Perm.trans ?_ h3
    simp only [List.append_assoc, List.cons_append]
    refine List.Perm.append_left A ?_
    exact (List.perm_middle (a := x) (l₁ := B) (l₂ := C)).symm
  · simp only [List.mem_append, List.mem_cons] at hsm
    rcases hsm with e | e | e
    · exact h5 s (List.mem_append.2 (.inl e)) z (List.mem_cons_of_mem _ hz)
    · subst e; exact (List.pairwise_cons.1 h6).1 z hz
    · exact h5 s (List.mem_append.2 (.inr e)) z (List.mem_cons_of_mem _ hz)
set_option maxRecDepth 100000 in
set_option maxHeartbeats 2000000 in
theorem ins_calls (g n c : Nat) (L0 : List LEl) (hL : L0.length = n) (hn : n ≤ 1000) (h1 : 1 ≤ n) (w : World) (hrow : LRow w g L0) (hh : L0.Pairwise fun a b => a.h < b.h) :
    Calls Try.prog 99 #[.slice (some ⟨g, 0, none⟩) n c, .int .i64 0, .int .i64 n, .func (.func 70) #[] #[]] w fun e w' =>
      (∃ v, e = .returned v) ∧ ∃ L, LRow w' g L ∧ L.Perm L0 ∧ L.Pairwise RLo ∧ Only (fun k => k = g) w w' := by
  go_enter Try.func99, Try.ntmps99
  go_wp2_with fail
  have H0 := Lib.hid (And.intro hrow hh)
  clear hrow hh
  go_loopw [8] (fun v wr => ∃ i : Nat, v = .int .i64 (i : Int) ∧ Hid (1 ≤ i ∧ i ≤ n ∧ ∃ S C, S.length = i ∧ (S ++ C).Perm L0 ∧ LRow wr g (S ++ C) ∧ S.Pairwise RLo ∧ (∀ s ∈ S, ∀ x ∈ C, s.h < x.h) ∧ C.Pairwise (fun a b => a.h < b.h) ∧ Only (fun k => k = g) w wr)) (fun v _ => n - (intOf v).toNat)
  case atStart =>
    obtain ⟨e, t, rfl⟩ : ∃ e t, L0 = e :: t := by
      cases L0 with
      | nil => simp at hL; omega
      | cons e t => exact ⟨e, t, rfl⟩
    refine ⟨1, rfl, Lib.hid ⟨Nat.le_refl _, h1, [e], t, rfl, List.Perm.refl _, H0.out.1, List.pairwise_singleton _ _, fun s hs x hx => ?_, (List.pairwise_cons.1 H0.out.2).2, Only.refl _ _⟩⟩
    rw [List.mem_singleton.1 hs]
    exact (List.pairwise_cons.1 H0.out.2).1 x hx
  case round =>
    obtain ⟨wo, rfl⟩ : ∃ x : World, x = wr := ⟨_, rfl⟩
    obtain ⟨i, rfl, HI⟩ := hrel
    obtain ⟨hi1, hi2, S, C0, hS, hp, hro, hso, hsc, hco, hoo⟩ := HI.out
    clear HI
    by_cases hi : i < n
    · obtain ⟨x, C, rfl⟩ : ∃ x C, C0 = x :: C := by
        cases C0 with
        | nil => have := hp.length_eq; simp at this; omega
        | cons x C => exact ⟨x, C, rfl⟩
      have pp1 : ((i : Int) < (n : Int)) = True := eq_true (by omega)
      have HO := Lib.hid (And.intro hi1 (And.intro hS (And.intro hp (And.intro hso (And.intro hsc (And.intro hco hoo))))))
      have HR0 := Lib.hid hro
      clear hi1 hS hp hro hso hsc hco hoo
      go_wp2_with fail
      go_loopw [9] (fun v wr => ∃ j : Nat, v = .int .i64 (j : Int) ∧ Hid (∃ A B, A.length = j ∧ S = A ++ B ∧ LRow wr g (A ++ x :: (B ++ C)) ∧ (∀ y ∈ B, x.k < y.k) ∧ Only (fun k => k = g) wo wr)) (fun v _ => (intOf v).toNat)
      case atStart => exact ⟨i, rfl, Lib.hid ⟨S, [], HO.out.2.1, by simp, by simpa using HR0.out, by simp, Only.refl _ _⟩⟩
      case round =>
        obtain ⟨wp, rfl⟩ : ∃ x : World, x = wr := ⟨_, rfl⟩
        obtain ⟨j, rfl, HJ⟩ := hrel
        obtain ⟨A, B, hA, hAB, hrp, hB, hop⟩ := HJ.out
        clear HJ
        by_cases hz : j = 0
        · obtain rfl := List.length_eq_zero_iff.1 (hA.trans hz)
          have HP := Lib.hid (And.intro hAB (And.intro hrp (And.intro hB hop)))
          clear hA hAB hrp hB hop
          go_wp2_with fail
          go_quiet (fail)
          go_wp2_with fail
          refine ⟨⟨i + 1, by go_num, Lib.hid ?_⟩, by simp [intOf]; omega⟩
          exact ins_round HO.out HP.out.1 (by rw [← HP.out.1]; exact HO.out.2.2.2.1) (fun a ha => by cases ha) HP.out.2.2.1 ⟨HP.out.2.1.at_, HP.out.2.1.few, HP.out.2.1.fz⟩ hi ((HO.out.2.2.2.2.2.2.trans HP.out.2.2.2 (fun _ _ h => h)).trans (Only.drewN (fun _ => False) _ _) (fun _ _ h => h.elim))
        · obtain ⟨j, rfl⟩ : ∃ j', j = j' + 1 := ⟨j - 1, by omega⟩
          clear hz
          obtain ⟨A', y, rfl⟩ : ∃ A' y, A = A' ++ [y] := ⟨A.dropLast, A.getLast (by intro e; rw [e] at hA; simp at hA), (List.dropLast_concat_getLast _).symm⟩
          have hA' : A'.length = j := by simpa using hA
          obtain ⟨m, hm⟩ : ∃ m, j + 1 = m := ⟨_, rfl⟩
          rw [hm]
          have pp2 : (0 < (m : Int)) = True := eq_true (by omega)
          have pq : (0 < m) = True := eq_true (by omega)
          obtain ⟨cy1, cy2⟩ := hrp.at_ j y (by simp [hA'])
          obtain ⟨cx1, cx2⟩ := hrp.at_ m x (by rw [← hm]; simp [hA'])
          have hjn : j + 1 < n := by
            have h1 := HO.out.2.2.1.length_eq
            rw [hAB] at h1
            simp at h1
            omega
          have j0 : 0 ≤ (j : Int) := by omega
          have j1 : (j : Int) < (n : Int) := by omega
          have j2 : (m : Int) < (n : Int) := by omega
          have pm : IntKind.i64.wrap ((m : Int) - 1) = (j : Int) := by rw [IntKind.wrap_i64]; omega
          have j3 : 0 ≤ (m : Int) := by omega
          clear pq
          have pq : (0 < m) = True := eq_true (by omega)
          have hxk := hrp.few x (by simp)
          have hyk := hrp.few y (by simp)
          obtain ⟨xh, xA, xk, xc⟩ := x
          obtain ⟨yh, yA, yk, yc⟩ := y
          simp only [LEl.v] at cx1 cx2 cy1 cy2 hxk hyk
          have hgp : g < wp.heap.size := World.block_lt_of_cell? wp _ cx1
          have HP := Lib.hid (And.intro hA' (And.intro hAB (And.intro hrp (And.intro hB (And.intro hop hgp)))))
          clear hA' hA hAB hrp hB hop hgp
          rw [show 2 * j = j * 2 from Nat.mul_comm _ _] at cy1 cy2
          rw [show 2 * m = m * 2 from Nat.mul_comm _ _] at cx1 cx2
          go_wp2_with fail
          have hSd : SwS g j m xh xA xk xc yh yA yk yc wp wp.drew := ⟨cx1, cx2, cy1, cy2, Lib.hid (Below.refl wp.heap.size wp).drew⟩
          by_cases hk : xk < yk
          · have k1 : (xk < yk) = True := eq_true hk
            have k2 : ((xk : Int) - (yk : Int) < 0) = True := eq_true (by omega)
            have k3 : ((xk : Int) < (yk : Int)) = True := eq_true (by omega)
            go_region_held3 (fun Y => Y.cell? ⟨g, m * 2, none⟩ = some (.int .i64 xh) ∧ Y.cell? ⟨g, m * 2 + 1, none⟩ = some (.slice xA xk xc) ∧ Y.cell? ⟨g, j * 2, none⟩ = some (.int .i64 yh) ∧ Y.cell? ⟨g, j * 2 + 1, none⟩ = some (.slice yA yk yc) ∧ Hid (Below wp.heap.size wp Y))
              (first | exact hSd | exact hSd.later hb1)
              (first | (go_at_call 70; refine (cmp_calls ⟨xh, xA, xk, xc⟩ ⟨yh, yA, yk, yc⟩ _ hxk hyk).mono ?_; rintro e w1 ⟨rfl, hb1⟩))
            rename_i hh
            have hr1 := HP.out.2.2.1.later HP.out.2.2.2.2.2 hh.2.2.2.2.out
            have HB1 := Lib.hid hh.2.2.2.2.out
            obtain ⟨dx1, dx2, dy1, dy2, -⟩ := hh
            have f1 := hr1.fz (m * 2)
            have f2 := hr1.fz (m * 2 + 1)
            have f3 := hr1.fz (j * 2)
            have f4 := hr1.fz (j * 2 + 1)
            have HR1 := Lib.hid hr1
            clear cx1 cx2 cy1 cy2 hSd hb1 hr1
            go_wp2_with fail
            go_region
            go_wp2_with fail
            have hsw := HR1.out.swap HP.out.1 hm
            have how := only_swap w1 g (m * 2) (m * 2 + 1) (j * 2) (j * 2 + 1) (.int .i64 yh) (.slice yA yk yc) (.int .i64 xh) (.slice xA xk xc)
            refine ⟨⟨j, rfl, Lib.hid ⟨A', ⟨yh, yA, yk, yc⟩ :: B, HP.out.1, by rw [HP.out.2.1]; simp, hsw, fun z hz => ?_, ?_⟩⟩, by simp [intOf]; omega⟩
            · rcases List.mem_cons.1 hz with rfl | hz
              · exact hk
              · exact HP.out.2.2.2.1 z hz
            · exact (HP.out.2.2.2.2.1.trans (Only.of_below HB1.out) (fun k hk e => by have := HP.out.2.2.2.2.1.size; omega)).trans how (fun _ _ h => h)
          · have k1 : (xk < yk) = False := eq_false hk
            have k2 : ((xk : Int) - (yk : Int) < 0) = False := eq_false (by omega)
            have k3 : ((xk : Int) < (yk : Int)) = False := eq_false (by omega)
            go_region_held3 (fun Y => Y.cell? ⟨g, m * 2, none⟩ = some (.int .i64 xh) ∧ Y.cell? ⟨g, m * 2 + 1, none⟩ = some (.slice xA xk xc) ∧ Y.cell? ⟨g, j * 2, none⟩ = some (.int .i64 yh) ∧ Y.cell? ⟨g, j * 2 + 1, none⟩ = some (.slice yA yk yc) ∧ Hid (Below wp.heap.size wp Y))
              (first | exact hSd | exact hSd.later hb1)
              (first | (go_at_call 70; refine (cmp_calls ⟨xh, xA, xk, xc⟩ ⟨yh, yA, yk, yc⟩ _ hxk hyk).mono ?_; rintro e w1 ⟨rfl, hb1⟩))
            rename_i hh
            have hr1 := HP.out.2.2.1.later HP.out.2.2.2.2.2 hh.2.2.2.2.out
            have HB1 := Lib.hid hh.2.2.2.2.out
            have HR1 := Lib.hid hr1
            clear cx1 cx2 cy1 cy2 hSd hb1 hr1 hh
            go_wp2_with fail
            refine ⟨⟨i + 1, by go_num, Lib.hid ?_⟩, by simp [intOf]; omega⟩
            have hSL : ((A' ++ [(⟨yh, yA, yk, yc⟩ : LEl)]) ++ B).Pairwise RLo := by rw [← HP.out.2.1]; exact HO.out.2.2.2.1
            have hAx : ∀ a ∈ A' ++ [(⟨yh, yA, yk, yc⟩ : LEl)], RLo a ⟨xh, xA, xk, xc⟩ := fun a ha => by
              have hy : RLo (⟨yh, yA, yk, yc⟩ : LEl) ⟨xh, xA, xk, xc⟩ := by
                have := HO.out.2.2.2.2.1 ⟨yh, yA, yk, yc⟩ (by rw [HP.out.2.1]; simp) ⟨xh, xA, xk, xc⟩ List.mem_cons_self
                unfold RLo
                simp only at this ⊢
                omega
              rcases List.mem_append.1 ha with ha | ha
              · have h1 := (List.pairwise_append.1 (List.pairwise_append.1 hSL).1).2.2 a ha _ (List.mem_singleton.2 rfl)
                exact h1.trans hy
              · rw [List.mem_singleton.1 ha]; exact hy
            exact ins_round HO.out HP.out.2.1 hSL hAx HP.out.2.2.2.1 HR1.out hi ((HO.out.2.2.2.2.2.2.trans HP.out.2.2.2.2.1 (fun _ _ h => h)).trans (Only.of_below HB1.out) (fun k hk e => by have := HO.out.2.2.2.2.2.2.size; have := HP.out.2.2.2.2.1.size; omega))
    · obtain rfl : i = n := by omega
      obtain rfl : C0 = [] := by
        cases C0 with
        | nil => rfl
        | cons x C => have := hp.length_eq; simp at this; omega
      have pp1 : ((i : Int) < (i : Int)) = False := eq_false (by omega)
      have HP := Lib.hid (And.intro hp (And.intro hro (And.intro hso hoo)))
      clear hi1 hS hp hro hso hsc hco hoo
      go_wp2_with fail
      refine bodyPost_end (v := .tuple #[]) (by simp [results, Try.results99, go_sem]) rfl ?_
      exact ⟨⟨_, rfl⟩, S, by simpa using HP.out.2.1, by simpa using HP.out.1, HP.out.2.2.1, HP.out.2.2.2⟩
set_option maxRecDepth 100000 in
set_option maxHeartbeats 2000000 in
theorem stable_calls (g n c : Nat) (L0 : List LEl) (hL : L0.length = n) (hn : n ≤ 19) (h1 : 1 ≤ n) (w : World) (hrow : LRow w g L0) (hh : L0.Pairwise fun a b => a.h < b.h) :
    Calls Try.prog 84 #[.slice (some ⟨g, 0, none⟩) n c, .int .i64 n, .func (.func 70) #[] #[]] w fun e w' =>
      (∃ v, e = .returned v) ∧ ∃ L, LRow w' g L ∧ L.Perm L0 ∧ L.Pairwise RLo ∧ Only (fun k => k = g) w w' := by
  have HI := Lib.hid (ins_calls g n c L0 hL (by omega) h1 w hrow hh)
  clear hrow hh hL
  go_enter Try.func84, Try.ntmps84
  go_wp2_with fail
  have p1 : (20 ≤ (n : Int)) = False := eq_false (by omega)
  have p2 : (20 < (n : Int)) = False := eq_false (by omega)
  have p3 : (20 ≤ n) = False := eq_false (by omega)
  have p4 : (20 < n) = False := eq_false (by omega)
  refine wp_loop_rounds 1 ?_
  rw [rounds_succ]
  go_wp2_with fail
  refine HI.out.mono ?_
  rintro e w' ⟨⟨v, rfl⟩, L, h⟩
  have HL := Lib.hid h
  clear h HI
  go_wp2_with fail
  refine wp_loop_rounds 1 ?_
  rw [rounds_succ]
  go_wp2_with fail
  refine bodyPost_end (v := .tuple #[]) (by simp [results, Try.results84, go_sem]) rfl ⟨⟨_, rfl⟩, L, HL.out⟩
set_option maxRecDepth 100000 in
set_option maxHeartbeats 2000000 in
theorem sorted_calls (g n c : Nat) (L0 : List LEl) (hL : L0.length = n) (hn : n ≤ 19) (h1 : 1 ≤ n) (w : World) (hrow : LRow w g L0) (hh : L0.Pairwise fun a b => a.h < b.h) :
    Calls Try.prog 69 #[.slice (some ⟨g, 0, none⟩) n c, .func (.func 70) #[] #[]] w fun e w' =>
      (∃ v, e = .returned v) ∧ ∃ L, LRow w' g L ∧ L.Perm L0 ∧ L.Pairwise RLo ∧ Only (fun k => k = g) w w' := by
  have HI := Lib.hid (stable_calls g n c L0 hL hn h1 w hrow hh)
  clear hrow hh hL
  go_enter Try.func69, Try.ntmps69
  go_wp2_with fail
  refine HI.out.mono ?_
  rintro e w' ⟨⟨v, rfl⟩, L, h⟩
  have HL := Lib.hid h
  clear h HI
  go_wp2_with fail
  refine bodyPost_end (v := .tuple #[]) (by simp [results, Try.results69, go_sem]) rfl ⟨⟨_, rfl⟩, L, HL.out⟩
theorem ins_none (w : World) : Calls Try.prog 99 #[.slice none 0 0, .int .i64 0, .int .i64 0, .func (.func 70) #[] #[]] w fun e w' => (∃ v, e = .returned v) ∧ w' = w := by
  go_enter Try.func99, Try.ntmps99
  go_wp2_with fail
  refine wp_loop_rounds 1 ?_
  rw [rounds_succ]
  go_wp2_with fail
  exact bodyPost_end (v := .tuple #[]) (by simp [results, Try.results99, go_sem]) rfl ⟨⟨_, rfl⟩, rfl⟩
theorem stable_none (w : World) : Calls Try.prog 84 #[.slice none 0 0, .int .i64 0, .func (.func 70) #[] #[]] w fun e w' => (∃ v, e = .returned v) ∧ w' = w := by
  go_enter Try.func84, Try.ntmps84
  go_wp2_with fail
  refine wp_loop_rounds 1 ?_
  rw [rounds_succ]
  go_wp2_with fail
  refine (ins_none w).mono ?_
  rintro e w' ⟨⟨v, rfl⟩, rfl⟩
  go_wp2_with fail
  refine wp_loop_rounds 1 ?_
  rw [rounds_succ]
  go_wp2_with fail
  exact bodyPost_end (v := .tuple #[]) (by simp [results, Try.results84, go_sem]) rfl ⟨⟨_, rfl⟩, rfl⟩
theorem sorted_none (w : World) : Calls Try.prog 69 #[.slice none 0 0, .func (.func 70) #[] #[]] w fun e w' => (∃ v, e = .returned v) ∧ w' = w := by
  go_enter Try.func69, Try.ntmps69
  go_wp2_with fail
  refine (stable_none w).mono ?_
  rintro e w' ⟨⟨v, rfl⟩, rfl⟩
  go_wp2_with fail
  exact bodyPost_end (v := .tuple #[]) (by simp [results, Try.results69, go_sem]) rfl ⟨⟨_, rfl⟩, rfl⟩
end Go.Proofs.Ytnkbbjeepdjamaa
