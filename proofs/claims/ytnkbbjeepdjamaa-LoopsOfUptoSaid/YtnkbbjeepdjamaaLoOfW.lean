/- refinerylaw10.LoopsOf: the walk. Conditions: the numbers are of their kinds. -/
import Derived.Test.YtnkbbjeepdjamaaLAw
import Derived.Test.YtnkbbjeepdjamaaLRef
import Derived.Test.YtnkbbjeepdjamaaDOvW
namespace Go.Proofs.Ytnkbbjeepdjamaa
open Go.RowKit
/-- Of the first places those that have a way back. -/
noncomputable def hbs (g : Nat → List Nat) (k : Nat) : List Nat := (List.range k).filter (fun y => @decide (HB g y) (Classical.propDecidable _))
theorem mem_hbs {g : Nat → List Nat} {k y : Nat} : y ∈ hbs g k ↔ y < k ∧ HB g y := by
  unfold hbs
  simp
theorem hbs_yes {g : Nat → List Nat} {k : Nat} (h : HB g k) : (hbs g (k + 1)).length = (hbs g k).length + 1 := by
  unfold hbs
  rw [List.range_succ, List.filter_append, List.length_append]
  simp [h]
theorem hbs_no {g : Nat → List Nat} {k : Nat} (h : ¬ HB g k) : (hbs g (k + 1)).length = (hbs g k).length := by
  unfold hbs
  rw [List.range_succ, List.filter_append, List.length_append]
  simp [h]
theorem hbs_le (g : Nat → List Nat) (k : Nat) : (hbs g k).length ≤ k := by
  unfold hbs
  exact Nat.le_trans (List.length_filter_le _ _) (by simp)
theorem nodup_nat : ∀ (l m : List Nat), l.Nodup → (∀ a ∈ l, a ∈ m) → l.length ≤ m.length
  | [], _, _, _ => Nat.zero_le _
  | a :: t, m, h, hs => by
    obtain ⟨h1, h2⟩ := List.nodup_cons.1 h
    have ha := hs a List.mem_cons_self
    have := nodup_nat t (m.erase a) h2 (fun b hb => (List.mem_erase_of_ne (fun e => h1 (by rw [← e]; exact hb))).2 (hs b (List.mem_cons_of_mem _ hb)))
    rw [List.length_erase_of_mem ha] at this
    have := List.length_pos_of_mem ha
    simp
    omega
theorem LRes.head_eq {B n : Nat} {g : Nat → List Nat} {v : Value} {L : List LEl} {W : World} (h : LRes B g n v L W) {e : LEl} (he : e ∈ L) : ∃ (xs : List Int) (y : Nat), IsSetI W B e.v xs ∧ e.k = xs.length ∧ xs.length ≤ n ∧ e.h = (y : Int) ∧ (∀ x : Int, x ∈ xs ↔ ∃ z : Nat, x = (z : Int) ∧ LB g y z) ∧ y < n ∧ HB g y := by
  obtain ⟨xs, y, h1, h2, h3, h4, h5⟩ := h.sets e he
  have := (h.heads y).1 ⟨e, he, h4⟩
  exact ⟨xs, y, h1, h2, h3, h4, h5, this.1, this.2⟩
/-- No two loops have the same head. -/
theorem LRes.inj {B n : Nat} {g : Nat → List Nat} {v : Value} {L : List LEl} {W : World} (h : LRes B g n v L W) : (L.map fun e => e.h.toNat).Nodup := by
  rw [List.nodup_iff_pairwise_ne, List.pairwise_map]
  refine List.Pairwise.imp_of_mem ?_ h.asc
  intro a b ha hb hab e
  obtain ⟨xs, y, h1, h2, _, h4, h5, _⟩ := h.head_eq ha
  obtain ⟨ys, z, k1, k2, _, k4, k5, _⟩ := h.head_eq hb
  rw [h4, k4] at e
  have e : y = z := by simpa using e
  subst e
  have : xs = ys := srt_ext ordI _ _ h1.srt k1.srt (fun x => by rw [h5, k5])
  subst this
  rcases hab with e | ⟨_, e⟩
  · omega
  · omega
theorem LRes.many {B n : Nat} {g : Nat → List Nat} {v : Value} {L : List LEl} {W : World} (h : LRes B g n v L W) : L.length = (hbs g n).length := by
  have h1 : (L.map fun e => e.h.toNat).length ≤ (hbs g n).length := nodup_nat _ _ h.inj (fun a ha => by
    obtain ⟨e, he, e2⟩ := List.mem_map.1 ha
    obtain ⟨xs, y, _, _, _, h4, _, h6⟩ := h.head_eq he
    rw [h4] at e2
    have : y = a := by simpa using e2
    subst this
    exact mem_hbs.2 h6)
  have h2 : (hbs g n).length ≤ (L.map fun e => e.h.toNat).length := nodup_nat _ _ (by unfold hbs; exact List.Pairwise.sublist List.filter_sublist List.nodup_range) (fun a ha => by
    obtain ⟨e, he, e2⟩ := (h.heads a).2 (mem_hbs.1 ha)
    exact List.mem_map.2 ⟨e, he, by rw [e2]; simp⟩)
  simp at h1 h2
  omega
/-- The loops' row as it is read. -/
structure LR (B n : Nat) (g : Nat → List Nat) (A : Option Addr) (L : List LEl) (W : World) : Prop where
  len : L.length ≤ n
  at_ : ∀ (i : Nat) (e : LEl), L[i]? = some e → ∃ (q : Nat) (xs : List Int) (y : Nat), A = some ⟨q, 0, none⟩ ∧ W.cell? ⟨q, i * 2, none⟩ = some (.int .i64 (y : Int)) ∧ W.cell? ⟨q, i * 2 + 1, none⟩ = some e.v ∧ IsSetI W B e.v xs ∧ e.k = xs.length ∧ xs.length ≤ n ∧ e.h = (y : Int) ∧ (∀ x : Int, x ∈ xs ↔ ∃ z : Nat, x = (z : Int) ∧ LB g y z) ∧ y < n ∧ HB g y
theorem LRes.lr {B n : Nat} {g : Nat → List Nat} {v : Value} {L : List LEl} {W : World} (h : LRes B g n v L W) : ∃ A c, v = .slice A L.length c ∧ LR B n g A L W := by
  have hl : L.length ≤ n := by rw [h.many]; exact hbs_le g n
  rcases h.row with ⟨rfl, rfl⟩ | ⟨q, c, rfl, hr, _, _⟩
  · exact ⟨none, 0, rfl, hl, fun i e hi => by simp at hi⟩
  · refine ⟨some ⟨q, 0, none⟩, c, rfl, hl, fun i e hi => ?_⟩
    obtain ⟨xs, y, k⟩ := h.head_eq (List.mem_of_getElem? hi)
    obtain ⟨h1, h2⟩ := hr.at_ i e hi
    rw [Nat.mul_comm] at h1 h2
    refine ⟨q, xs, y, rfl, ?_, h2, k⟩
    rw [h1, k.2.2.2.1]
theorem LR.later {B n : Nat} {g : Nat → List Nat} {A : Option Addr} {L : List LEl} {W W' : World} (h : LR B n g A L W) (hb : Below W.heap.size W W') : LR B n g A L W' := by
  refine ⟨h.len, fun i e hi => ?_⟩
  obtain ⟨q, xs, y, h1, h2, h3, h4, h5⟩ := h.at_ i e hi
  exact ⟨q, xs, y, h1, (hb.cell (World.block_lt_of_cell? W _ h2)).trans h2, (hb.cell (World.block_lt_of_cell? W _ h3)).trans h3, h4.only (Only.of_below hb) (fun g hg e => by have := (isset_lt h4 hg).2; omega), h5⟩
/-- What a test of a loop's place reads. -/
def LWr (p qr j base : Nat) (eA : Option Addr) (ek ec : Nat) (rb : Bool) (xs : List Int) (X0 X : World) : Prop :=
  X.cell? ⟨p, 1, none⟩ = some (.slice eA ek ec) ∧ X.cell? ⟨qr, j, none⟩ = some (.bool rb) ∧ Hid (IsSetI X base (.slice eA ek ec) xs ∧ Below X0.heap.size X0 X)
theorem LWr.later {p qr j base : Nat} {eA : Option Addr} {ek ec : Nat} {rb : Bool} {xs : List Int} {X0 X X' : World} (h : LWr p qr j base eA ek ec rb xs X0 X) (hb : Below X.heap.size X X') : LWr p qr j base eA ek ec rb xs X0 X' := by
  obtain ⟨h1, h2, h4⟩ := h
  have k : ∀ {p : Addr} {v : Value}, X.cell? p = some v → X'.cell? p = some v := fun hc => (hb.cell (World.block_lt_of_cell? X _ hc)).trans hc
  exact ⟨k h1, k h2, Lib.hid ⟨h4.out.1.only (Only.of_below hb) (fun g hg e => by have := (isset_lt h4.out.1 hg).2; omega), below_two h4.out.2 hb⟩⟩
/-- What the test of two loops reads. -/
def LTw (P R y z : Nat) (aA : Option Addr) (ak ac : Nat) (bA : Option Addr) (bk bc : Nat) (W0 X : World) : Prop :=
  X.cell? ⟨P, 0, none⟩ = some (.int .i64 (y : Int)) ∧ X.cell? ⟨P, 1, none⟩ = some (.slice aA ak ac) ∧ X.cell? ⟨R, 0, none⟩ = some (.int .i64 (z : Int)) ∧ X.cell? ⟨R, 1, none⟩ = some (.slice bA bk bc) ∧ Hid (Below W0.heap.size W0 X)
theorem LTw.later {P R y z : Nat} {aA : Option Addr} {ak ac : Nat} {bA : Option Addr} {bk bc : Nat} {W0 X X' : World} (h : LTw P R y z aA ak ac bA bk bc W0 X) (hb : Below X.heap.size X X') : LTw P R y z aA ak ac bA bk bc W0 X' := by
  obtain ⟨h1, h2, h3, h4, h5⟩ := h
  have k : ∀ {p : Addr} {v : Value}, X.cell? p = some v → X'.cell? p = some v := fun hc => (hb.cell (World.block_lt_of_cell? X _ hc)).trans hc
  exact ⟨k h1, k h2, k h3, k h4, Lib.hid (below_two h5.out hb)⟩
set_option maxHeartbeats 2000000 in
theorem lof_far (N : Nat) (A : Option Addr) (c : Nat) (es : List (Nat × Nat)) (W : World) (hl : ¬ es.length ≤ 40) :
    Calls Try.prog 12 #[.agg #[.int .u8 N, .slice A es.length c]] W fun e W' => e = .returned (.bool true) ∧ Below W.heap.size W W' := by
  go_enter Try.func12, Try.ntmps12
  go_wp2_with fail
  generalize hX : World.alloc W _ = X
  obtain ⟨hx, hbx, hz⟩ := boxed hX rfl
  have HX := Lib.hid (And.intro hx (And.intro hbx hz))
  clear hX hx hbx hz
  refine (awake10 X).mono ?_
  rintro e W1 ⟨rfl, hb⟩
  have H1 := Lib.hid (And.intro ((hb.block _ (lt_blk HX.out.1)).trans HX.out.1) (below_two HX.out.2.1 hb))
  clear hb HX
  have x0 := cell_of_blk _ _ _ _ _ H1.out.1 0
  have x1 := cell_of_blk _ _ _ _ _ H1.out.1 1
  simp at x0 x1
  go_wp2_with fail
  clear x0 x1
  refine (light_calls7 N A es.length c W1).mono ?_
  rintro e W2 ⟨rfl, hb⟩
  have hbel := below_two H1.out.2 hb
  rw [decide_eq_false hl]
  clear hb H1
  go_wp2_with fail
  go_ret
  exact ⟨rfl, hbel⟩
set_option maxRecDepth 100000 in
set_option maxHeartbeats 8000000 in
theorem lof_near (N : Nat) (A : Option Addr) (c : Nat) (es : List (Nat × Nat)) (W : World) (hN : N ≤ 255) (hA : Edges W A es) (hc : es.length ≤ c) (hl : es.length ≤ 40) :
    Calls Try.prog 12 #[.agg #[.int .u8 N, .slice A es.length c]] W fun e W' => e = .returned (.bool true) ∧ Below W.heap.size W W' := by
  have HA := Lib.hid (And.intro hA hc)
  clear hA hc
  obtain ⟨n, hn⟩ : ∃ n, 1 + N % 12 = n := ⟨_, rfl⟩
  have hn0 : 0 < n := by omega
  have hn12 : n ≤ 12 := by omega
  have HN := Lib.hid hn
  clear hn
  go_enter Try.func12, Try.ntmps12
  go_wp2_with fail
  generalize hX : World.alloc W _ = X
  obtain ⟨hx, hbx, hz⟩ := boxed hX rfl
  have HX := Lib.hid (And.intro hx (And.intro hbx hz))
  clear hX hx hbx hz
  refine (awake10 X).mono ?_
  rintro e W1 ⟨rfl, hb⟩
  have H1 := Lib.hid (And.intro ((hb.block _ (lt_blk HX.out.1)).trans HX.out.1) (below_two HX.out.2.1 hb))
  clear hb HX
  have x0 := cell_of_blk _ _ _ _ _ H1.out.1 0
  have x1 := cell_of_blk _ _ _ _ _ H1.out.1 1
  simp at x0 x1
  go_wp2_with fail
  clear x0 x1
  refine (light_calls7 N A es.length c W1).mono ?_
  rintro e W2 ⟨rfl, hb⟩
  have H2 := Lib.hid (And.intro ((hb.block _ (lt_blk H1.out.1)).trans H1.out.1) (below_two H1.out.2 hb))
  rw [decide_eq_true hl]
  clear hb H1
  have x0 := cell_of_blk _ _ _ _ _ H2.out.1 0
  have x1 := cell_of_blk _ _ _ _ _ H2.out.1 1
  simp at x0 x1
  go_wp2_with fail
  clear x0 x1
  have hsc := small_calls N hN A c es W2 (HA.out.1.later H2.out.2) HA.out.2 (by omega)
  rw [HN.out] at hsc
  have HSC := Lib.hid hsc
  clear hsc
  refine HSC.out.mono ?_
  rintro e W3 ⟨gv, q, vs, S, rfl, hg, hm, hap, hb3⟩
  have hrw := graph_rows n hn0 es
  have htw := graph_twin n hn0 es
  generalize graphB n es = b at *
  generalize graphA n es = a at *
  obtain ⟨q1, p1, rfl⟩ := hg.form
  rw [hrw.lb] at hg ⊢
  have HG := Lib.hid (And.intro (hg.lower H2.out.2.size) (And.intro (hm.lower H2.out.2.size) (And.intro (below_two H2.out.2 hb3) (And.intro hrw htw))))
  clear hg hm hap hb3 hrw htw HSC H2
  go_wp2_with fail
  generalize hX : World.alloc W3 _ = X
  obtain ⟨hx, hbx, hz⟩ := boxed hX rfl
  have hlb := HG.out.2.2.2.1.lb
  have hfew : Few b := HG.out.2.2.2.1.fewOf (by omega)
  have hbl : ∀ (i : Nat) (l : List Nat), b[i]? = some l → l.length ≤ 1048575 := fun i l hi => by have := (HG.out.2.2.2.1.few i l hi).1; omega
  have hal : ∀ (i : Nat) (l : List Nat), a[i]? = some l → l.length ≤ 1048575 := fun i l hi => by have := (HG.out.2.2.2.1.fewA i l hi).1; omega
  obtain ⟨B, hB⟩ : ∃ k, W3.heap.size = k := ⟨_, rfl⟩
  have hS : GSr B q1 p1 n W.heap.size b a S W X := by
    rw [← hB]
    exact ⟨cell_of_blk _ _ _ _ _ hx 0, cell_of_blk _ _ _ _ _ hx 1, Lib.hid ⟨HG.out.1.later hbx, below_two HG.out.2.2.1 hbx⟩⟩
  have hSd := hS.later (X' := X.drew) ((Below.refl X.heap.size X).drew)
  have HF := Lib.hid (And.intro hlb (And.intro hfew (And.intro HG.out.2.2.2.2 (And.intro hbl (And.intro hal (And.intro (HG.out.2.1.later hbx) (And.intro (below_two HG.out.2.2.1 hbx).size (show n ≤ 1048575 by omega))))))))
  have H19 := Lib.hid (show ∀ hs : List Nat, hs.Nodup → (∀ y ∈ hs, y < n ∧ HB (nb b) y) → hs.length ≤ 19 from fun hs h1 h2 => Nat.le_trans (len_range hs n h1 (fun x hx => (h2 x hx).1)) (by omega))
  rw [hB]
  clear hX hx hbx hz hlb hfew hbl hal HG hB
  go_region_held3 (fun Y => Y.cell? ⟨B, 0, none⟩ = some (.slice (some ⟨q1, 0, none⟩) n n) ∧ Y.cell? ⟨B, 1, none⟩ = some (.slice (some ⟨p1, 0, none⟩) n n) ∧ Hid (Gr Y W.heap.size (.agg #[.slice (some ⟨q1, 0, none⟩) n n, .slice (some ⟨p1, 0, none⟩) n n]) b a S ∧ Below W.heap.size W Y))
    (first | exact hSd | exact (hSd.later hb1).later hb2 | exact hSd.later hb1)
    (first
      | (go_at_call 19; refine (of_calls hn0 HF.out.2.2.2.2.2.2.2 _ hSd.2.2.out.1 HF.out.1 HF.out.2.1 HF.out.2.2.1 HF.out.2.2.2.1 HF.out.2.2.2.2.1 HF.out.2.2.2.2.2.2.1).mono ?_; rintro e w1 ⟨qu, qb, qd, ts, up, deep, rfl, htr, hdt, hb1⟩)
      | (go_at_call 44; refine (loops_calls (hSd.later hb1).2.2.out.1 HF.out.1 HF.out.2.1 HF.out.2.2.1 (by omega) HF.out.2.2.2.2.1 htr hdt H19.out).mono ?_; rintro e w2 ⟨vl, L, rfl, hlr, hb2⟩))
  rename_i hh
  have HE := Lib.hid (And.intro hlr (And.intro ((HF.out.2.2.2.2.2.1.later (Below.refl X.heap.size X).drew).later (below_two hb1 hb2)) hh.2.2.out.2))
  clear hh hlr hb1 hb2 htr hdt hS hSd
  obtain ⟨A, c, rfl, hlr⟩ := HE.out.1.lr
  have HL := Lib.hid (And.intro hlr (And.intro HE.out.1.many HE.out.1.asc))
  have HM := Lib.hid HE.out.2
  have hln := hlr.len
  clear hlr
  go_wp2_with fail
  go_loopw [33, 6] (fun v m wr => ∃ h : Nat, v = .int .i64 (h : Int) ∧ m = .int .i64 ((hbs (nb b) h).length : Int) ∧ Hid (h ≤ n ∧ Below w2.heap.size w2 wr)) (fun v _ _ => n - (intOf v).toNat)
  case atStart => exact ⟨0, rfl, rfl, Lib.hid ⟨Nat.zero_le _, Below.refl _ _⟩⟩
  case round =>
    obtain ⟨wo, rfl⟩ : ∃ x : World, x = wr := ⟨_, rfl⟩
    obtain ⟨h, rfl, rfl, HI⟩ := hrel
    by_cases hh : h < n
    · have pp1 : ((h : Int) < (n : Int)) = True := eq_true (by omega)
      have i0 : 0 ≤ (h : Int) := by omega
      have i1 : (h : Int) < (n : Int) := by omega
      have hle := hbs_le (nb b) h
      have hbd := bodyR_calls (HM.out.1.later HI.out.2) HF.out.2.1 HF.out.1 HF.out.2.2.2.1 (fun i _ => wayO_neg) h hh
      have HBD := Lib.hid hbd
      obtain ⟨m, hm⟩ : ∃ m, (hbs (nb b) h).length = m := ⟨_, rfl⟩
      rw [hm] at hle
      have HM2 := Lib.hid hm
      rw [hm]
      clear hbd hm
      go_wp2_with fail
      refine HBD.out.mono ?_
      rintro e V ⟨qr, row, rfl, hsr, hrl, hrow, hb⟩
      have hV := below_two HI.out.2 hb
      have HV := Lib.hid (And.intro hsr (And.intro hrl (And.intro hrow hV)))
      have hhr := hrow h hh
      have ch := seen_tr hsr hrl hh
      clear hsr hrl hrow hb hV HBD
      cases htr : tr row h
      · rw [htr] at ch hhr
        have hno : ¬ HB (nb b) h := fun e => by have := hhr.2 ⟨e, .head⟩; cases this
        have HN := Lib.hid hno
        clear hhr htr hno
        go_wp2_with fail
        clear ch
        go_loopw [46] (fun v wr => ∃ i : Nat, v = .int .i64 (i : Int) ∧ Hid (i ≤ L.length ∧ Below V.heap.size V wr)) (fun v _ => L.length - (intOf v).toNat)
        case atStart => exact ⟨0, rfl, Lib.hid ⟨Nat.zero_le _, Below.refl _ _⟩⟩
        case round =>
          obtain ⟨wq, rfl⟩ : ∃ x : World, x = wr := ⟨_, rfl⟩
          obtain ⟨i, rfl, HJ⟩ := hrel
          by_cases hi : i < L.length
          · have pp2 : ((i : Int) < (L.length : Int)) = True := eq_true (by omega)
            have j0 : 0 ≤ (i : Int) := by omega
            have j1 : (i : Int) < (L.length : Int) := by omega
            obtain ⟨⟨eh, eA, ek, ec⟩, he⟩ : ∃ e, L[i]? = some e := ⟨_, List.getElem?_eq_getElem hi⟩
            obtain ⟨q, xs, y, rfl, c0, c1, k⟩ := (HL.out.1.later (below_two HV.out.2.2.2 HJ.out.2)).at_ i _ he
            simp only [LEl.v] at c1 k
            have qq : ((y : Int) == (h : Int)) = false := beq_eq_false_iff_ne.mpr (fun e => HN.out (by have := Int.natCast_inj.1 e; rw [← this]; exact k.2.2.2.2.2.2))
            have hbn : Below wq.heap.size wq (wq.alloc (.cells #[.int .i64 (y : Int), .slice eA ek ec] 72)) := (Below.refl _ _).alloc (Nat.le_refl _) _
            have HB2 := Lib.hid (below_two HJ.out.2 hbn)
            clear k hbn he
            go_wp2_with fail
            clear c0 c1
            go_roundw
            case rel => exact ⟨i + 1, by go_num, Lib.hid ⟨by omega, HB2.out⟩⟩
            case measure => simp [intOf]; omega
          · obtain rfl : i = L.length := by have := HJ.out.1; omega
            have pp2 : ((L.length : Int) < (L.length : Int)) = False := eq_false (by omega)
            have HB2 := Lib.hid (below_two HV.out.2.2.2 HJ.out.2)
            go_wp2_with fail
            go_roundw
            case rel => exact ⟨h + 1, by go_num, by rw [hbs_no HN.out, HM2.out], Lib.hid ⟨by omega, HB2.out⟩⟩
            case measure => simp [intOf]; omega
      · rw [htr] at ch hhr
        have hyes : HB (nb b) h := (hhr.1 rfl).1
        have HN := Lib.hid hyes
        clear hhr htr hyes
        go_wp2_with fail
        clear ch
        go_loopw [59] (fun v wr => ∃ i : Nat, v = .int .i64 (i : Int) ∧ Hid (i ≤ L.length ∧ Below V.heap.size V wr)) (fun v _ => L.length - (intOf v).toNat)
        case atStart => exact ⟨0, rfl, Lib.hid ⟨Nat.zero_le _, Below.refl _ _⟩⟩
        case round =>
          obtain ⟨wq, rfl⟩ : ∃ x : World, x = wr := ⟨_, rfl⟩
          obtain ⟨i, rfl, HJ⟩ := hrel
          by_cases hi : i < L.length
          · have pp2 : ((i : Int) < (L.length : Int)) = True := eq_true (by omega)
            have j0 : 0 ≤ (i : Int) := by omega
            have j1 : (i : Int) < (L.length : Int) := by omega
            obtain ⟨⟨eh, eA, ek, ec⟩, he⟩ : ∃ e, L[i]? = some e := ⟨_, List.getElem?_eq_getElem hi⟩
            obtain ⟨q, xs, y, rfl, c0, c1, k⟩ := (HL.out.1.later (below_two HV.out.2.2.2 HJ.out.2)).at_ i _ he
            simp only [LEl.v] at c1 k
            generalize hX : wq.alloc (.cells #[.int .i64 (y : Int), .slice eA ek ec] 72) = X2
            obtain ⟨hx, hbx, hz⟩ := boxed hX rfl
            have HK := Lib.hid (And.intro k hx)
            have HB2 := Lib.hid (below_two HJ.out.2 hbx)
            have HK0 := Lib.hid hbx
            have HX := Lib.hid hX
            have hz0 : wq.heap.size < X2.heap.size := lt_blk hx
            have HKX := Lib.hid (show IsSetI X2 w1.heap.size (.slice eA ek ec) xs from k.1.only (Only.of_below hbx) (fun g hg e => by have := (isset_lt k.1 hg).2; omega))
            have cx0 := cell_of_blk _ _ _ _ _ hx 0
            have cx1 := cell_of_blk _ _ _ _ _ hx 1
            simp at cx0 cx1
            clear hX hx hbx k he
            by_cases hyh : y = h
            · have qq : ((y : Int) == (h : Int)) = true := by simp [hyh]
              have HYH := Lib.hid hyh
              clear hyh
              rw [← HX.out] at cx0 cx1 hz0
              go_wp2_with fail
              rw [HX.out] at cx0 cx1 hz0 ⊢
              clear c0 c1 qq
              go_loopw [69] (fun v wr => ∃ j : Nat, v = .int .i64 (j : Int) ∧ Hid (j ≤ n ∧ Below X2.heap.size X2 wr)) (fun v _ => n - (intOf v).toNat)
              case atStart => exact ⟨0, rfl, Lib.hid ⟨Nat.zero_le _, Below.refl _ _⟩⟩
              case round =>
                obtain ⟨wp, rfl⟩ : ∃ x : World, x = wr := ⟨_, rfl⟩
                obtain ⟨j, rfl, HP⟩ := hrel
                by_cases hj : j < n
                · have pp3 : ((j : Int) < (n : Int)) = True := eq_true (by omega)
                  have k0 : 0 ≤ (j : Int) := by omega
                  have k1 : (j : Int) < (n : Int) := by omega
                  have hsr2 : Seen wp qr row := (HV.out.1.only (Only.of_below (below_two HJ.out.2 HK0.out)) (by have := lt_blk HV.out.1; omega)).only (Only.of_below HP.out.2) (by have := lt_blk HV.out.1; have := (below_two HJ.out.2 HK0.out).size; omega)
                  have cb := seen_tr hsr2 HV.out.2.1 hj
                  have cv := (HP.out.2.cell (World.block_lt_of_cell? _ _ cx1)).trans cx1
                  have hS : LWr wq.heap.size qr j w1.heap.size eA ek ec (tr row j) xs X2 wp := ⟨cv, cb, Lib.hid ⟨HKX.out.only (Only.of_below HP.out.2) (fun g hg e => by have := (isset_lt HKX.out hg).2; omega), HP.out.2⟩⟩
                  have hSd := hS.later (X' := wp.drew) ((Below.refl wp.heap.size wp).drew)
                  obtain ⟨rb, hrb⟩ : ∃ rb, tr row j = rb := ⟨_, rfl⟩
                  rw [hrb] at hSd
                  have HX3 := Lib.hid (show rb = decide ((j : Int) ∈ xs) from by
                    have h1 := HV.out.2.2.1 j hj
                    rw [hrb] at h1
                    have h2 : (j : Int) ∈ xs ↔ LB (nb b) h j := (HK.out.1.2.2.2.2.1 _).trans ⟨fun ⟨z, e1, e2⟩ => by have := Int.natCast_inj.1 e1; rw [this, ← HYH.out]; exact e2, fun e1 => ⟨j, rfl, by rw [HYH.out]; exact e1⟩⟩
                    cases rb
                    · symm
                      refine decide_eq_false (fun h3 => ?_)
                      have := h1.2 ⟨HN.out, h2.1 h3⟩; cases this
                    · symm
                      exact decide_eq_true (h2.2 (h1.1 rfl).2))
                  have hli2 : xs.length ≤ 1048576 := by have := HK.out.1.2.2.1; omega
                  clear cb cv hS hsr2 hrb
                  go_wp2_with fail
                  go_region_held3 (fun Y => Y.cell? ⟨wq.heap.size, 1, none⟩ = some (.slice eA ek ec) ∧ Y.cell? ⟨qr, j, none⟩ = some (.bool rb) ∧ Hid (IsSetI Y w1.heap.size (.slice eA ek ec) xs ∧ Below X2.heap.size X2 Y))
                    (first | exact hSd | exact hSd.later hb1)
                    (first | (go_at_call 34; refine (hasI w1.heap.size (.slice eA ek ec) xs (j : Int) _ hSd.2.2.out.1 hli2).mono ?_; rintro e w1 ⟨rfl, hb1⟩))
                  have hb2 := below_two HP.out.2 (below_two ((Below.refl wp.heap.size wp).drew) hb1)
                  have HB3 := Lib.hid hb2
                  rename_i hh
                  clear hb1 hb2 hSd hh
                  rw [← HX3.out]
                  cases rb
                  all_goals
                    go_wp2_with fail
                    go_roundw
                    case rel => exact ⟨j + 1, by go_num, Lib.hid ⟨by omega, HB3.out⟩⟩
                    case measure => simp [intOf]; omega
                · obtain rfl : j = n := by have := HP.out.1; omega
                  have pp3 : ((j : Int) < (j : Int)) = False := eq_false (by omega)
                  have HB3 := Lib.hid (below_two HB2.out HP.out.2)
                  go_wp2_with fail
                  go_roundw
                  case rel => exact ⟨i + 1, by go_num, Lib.hid ⟨by omega, HB3.out⟩⟩
                  case measure => simp [intOf]; omega
            · have qq : ((y : Int) == (h : Int)) = false := beq_eq_false_iff_ne.mpr (by omega)
              rw [← HX.out] at HB2
              clear HK0
              clear cx0 cx1 HKX HK HX hz0
              go_wp2_with fail
              clear c0 c1
              go_roundw
              case rel => exact ⟨i + 1, by go_num, Lib.hid ⟨by omega, HB2.out⟩⟩
              case measure => simp [intOf]; omega
          · obtain rfl : i = L.length := by have := HJ.out.1; omega
            have pp2 : ((L.length : Int) < (L.length : Int)) = False := eq_false (by omega)
            have HB2 := Lib.hid (below_two HV.out.2.2.2 HJ.out.2)
            go_wp2_with fail
            go_roundw
            case rel => exact ⟨h + 1, by go_num, by rw [hbs_yes HN.out, HM2.out]; go_num, Lib.hid ⟨by omega, HB2.out⟩⟩
            case measure => simp [intOf]; omega
    · obtain rfl : h = n := by have := HI.out.1; omega
      have pp1 : ((h : Int) < (h : Int)) = False := eq_false (by omega)
      rw [← HL.out.2.1]
      go_wp2_with fail
      go_loopw [14] (fun v wr => ∃ i : Nat, v = .int .i64 (i : Int) ∧ Hid (1 ≤ i ∧ (i ≤ L.length ∨ i = 1) ∧ Below w2.heap.size w2 wr)) (fun v _ => L.length - (intOf v).toNat)
      case atStart => exact ⟨1, rfl, Lib.hid ⟨Nat.le_refl _, .inr rfl, HI.out.2⟩⟩
      case round =>
        obtain ⟨wq, rfl⟩ : ∃ x : World, x = wr := ⟨_, rfl⟩
        obtain ⟨i, rfl, HJ⟩ := hrel
        by_cases hi : i < L.length
        · have pp2 : ((i : Int) < (L.length : Int)) = True := eq_true (by omega)
          obtain ⟨h, hih⟩ : ∃ h, h + 1 = i := ⟨i - 1, by have := HJ.out.1; omega⟩
          have h0 : 0 ≤ (h : Int) := by omega
          have h1 : (h : Int) < (L.length : Int) := by omega
          have i0 : 0 ≤ (i : Int) := by omega
          have i1 : (i : Int) < (L.length : Int) := by omega
          have iw : IntKind.i64.wrap ((i : Int) - 1) = (h : Int) := by rw [IntKind.wrap_i64]; omega
          obtain ⟨⟨ah, aA, ak, ac⟩, ha⟩ : ∃ e, L[h]? = some e := ⟨_, List.getElem?_eq_getElem (by omega)⟩
          obtain ⟨⟨bh, bA, bk, bc⟩, hb⟩ : ∃ e, L[i]? = some e := ⟨_, List.getElem?_eq_getElem hi⟩
          obtain ⟨q, xs, y, rfl, a0, a1, k⟩ := (HL.out.1.later HJ.out.2.2).at_ h _ ha
          obtain ⟨q', ys, z, e, b0, b1, k'⟩ := (HL.out.1.later HJ.out.2.2).at_ i _ hb
          obtain rfl : q = q' := by injection e with e; injection e
          simp only [LEl.v] at a1 b1 k k'
          go_wp2_with fail
          have K0 := Lib.hid (And.intro k k')
          have hq : q < wq.heap.size := World.block_lt_of_cell? _ _ a0
          have HRO := Lib.hid (show RLo ⟨ah, aA, ak, ac⟩ ⟨bh, bA, bk, bc⟩ from by
            have := List.pairwise_iff_getElem.1 HL.out.2.2 h i (by omega) hi (by omega)
            rw [(List.getElem?_eq_some_iff.1 ha).2, (List.getElem?_eq_some_iff.1 hb).2] at this
            exact this)
          clear k k' ha hb e
          go_region
          generalize hX : World.alloc (World.alloc wq _) _ = X2
          obtain ⟨z0, z1, -, zb⟩ := two_bx hX
          obtain ⟨P, hP⟩ : ∃ k, wq.heap.size = k := ⟨_, rfl⟩
          obtain ⟨R, hR⟩ : ∃ k, P + 1 = k := ⟨_, rfl⟩
          rw [hP] at z0 z1 ⊢
          rw [hR] at z1 ⊢
          rotate_left
          generalize hX : World.alloc (World.alloc wq _) _ = X2
          obtain ⟨z1, z0, -, zb⟩ := two_bx hX
          obtain ⟨R, hR⟩ : ∃ k, wq.heap.size = k := ⟨_, rfl⟩
          obtain ⟨P, hP⟩ : ∃ k, R + 1 = k := ⟨_, rfl⟩
          rw [hR] at z0 z1 ⊢
          rw [hP] at z0 ⊢
          rotate_left
          all_goals
            have hS0 : LTw P R y z aA ak ac bA bk bc w2 X2 := ⟨cell_of_blk _ _ _ _ _ z0 0, cell_of_blk _ _ _ _ _ z0 1, cell_of_blk _ _ _ _ _ z1 0, cell_of_blk _ _ _ _ _ z1 1, Lib.hid (below_two HJ.out.2.2 zb)⟩
            have hS1 := (hS0.later ((Below.refl X2.heap.size X2).drew)).later (X' := X2.drew.drew) ((Below.refl X2.drew.heap.size X2.drew).drew)
            generalize X2.drew = X3 at hS1 ⊢
            have hro : RLo ⟨ah, aA, ak, ac⟩ ⟨bh, bA, bk, bc⟩ := HRO.out
            unfold RLo at hro
            simp only at hro
            have g1 : ((bk : Int) < (ak : Int)) = False := eq_false (by omega)
            have hla : ak ≤ 12 := by have := K0.out.1.2.1; have := K0.out.1.2.2.1; omega
            have hlb : bk ≤ 12 := by have := K0.out.2.2.1; have := K0.out.2.2.2.1; omega
            clear hS0 z0 z1 zb hX hP hR a0 a1 b0 b1 hq
            by_cases heq : ak = bk
            · have g2 : ((ak : Int) == (bk : Int)) = true := by simp [heq]
              have g3 : ((z : Int) ≤ (y : Int)) = False := eq_false (by have := K0.out.1.2.2.2.1; have := K0.out.2.2.2.2.1; omega)
              clear heq hro
              go_wp2_with fail
              refine wp_region_held_drew (S := (LTw P R y z aA ak ac bA bk bc w2)) (by kernel_rfl) (by (first | exact hS1 | (refine LTw.later (by assumption) ?_; assumption))) (fun hHeld => ?_)
              refine wpAnyH_take (i := 0) (oi := { dst := some 99, op := Go.Op.fieldAddr 72 (Go.Operand.tmp 15) 1, type := 0, pos := "law.go:56", after := #[], guard := none }) (v := ?_) rfl (by kernel_rfl) (by kernel_rfl) (by kernel_rfl) (fun _ _ _ h => h) (Or.inl ⟨by rfl, ?_⟩) (by assumption) ?_
              rotate_left 1
              · intro w hSw; (obtain ⟨d0, d1, d2, d3, _⟩ := hSw); go_simp; try with_reducible rfl
              try simp only [Act.put, List.setIfInBounds_toArray, List.set_cons_zero, List.set_cons_succ]
              refine wpAnyH_take (i := 1) (oi := { dst := some 100, op := Go.Op.load 57 (Go.Operand.tmp 99), type := 57, pos := "law.go:56", after := #[{ on := 0, ground := Go.Ground.data }], guard := none }) (v := ?_) rfl (by kernel_rfl) (by kernel_rfl) (by kernel_rfl) (fun _ _ _ h => h) (Or.inl ⟨by rfl, ?_⟩) (by assumption) ?_
              rotate_left 1
              · intro w hSw; (obtain ⟨d0, d1, d2, d3, _⟩ := hSw); go_simp; try with_reducible rfl
              try simp only [Act.put, List.setIfInBounds_toArray, List.set_cons_zero, List.set_cons_succ]
              refine wpAnyH_take (i := 3) (oi := { dst := some 102, op := Go.Op.fieldAddr 72 (Go.Operand.tmp 16) 1, type := 0, pos := "law.go:56", after := #[], guard := none }) (v := ?_) rfl (by kernel_rfl) (by kernel_rfl) (by kernel_rfl) (fun _ _ _ h => h) (Or.inl ⟨by rfl, ?_⟩) (by assumption) ?_
              rotate_left 1
              · intro w hSw; (obtain ⟨d0, d1, d2, d3, _⟩ := hSw); go_simp; try with_reducible rfl
              try simp only [Act.put, List.setIfInBounds_toArray, List.set_cons_zero, List.set_cons_succ]
              refine wpAnyH_take (i := 4) (oi := { dst := some 103, op := Go.Op.load 57 (Go.Operand.tmp 102), type := 57, pos := "law.go:56", after := #[{ on := 3, ground := Go.Ground.data }], guard := none }) (v := ?_) rfl (by kernel_rfl) (by kernel_rfl) (by kernel_rfl) (fun _ _ _ h => h) (Or.inl ⟨by rfl, ?_⟩) (by assumption) ?_
              rotate_left 1
              · intro w hSw; (obtain ⟨d0, d1, d2, d3, _⟩ := hSw); go_simp; try with_reducible rfl
              try simp only [Act.put, List.setIfInBounds_toArray, List.set_cons_zero, List.set_cons_succ]
              refine wpAnyH_ready (rs := [2]) (by kernel_rfl) (by simp) ?_
              refine AllReadyH.cons (o := { dst := some 101, op := Go.Op.call { callee := Go.Callee.value (Go.Operand.func 41), args := #[Go.Operand.tmp 100], argTypes := #[57] }, type := 3, pos := "law.go:56", after := #[{ on := 1, ground := Go.Ground.data }], guard := none }) rfl (fun K hK => ?_) AllReadyH.nil
              go_simp
              refine (lenA aA ak ac _).mono ?_
              rintro e w22 ⟨rfl, hb2⟩
              go_wp2_with fail
              refine hK.out _ _ ?_ (fun hHeld1 => ?_)
              · (try dsimp only); (first | exact hS1 | (refine LTw.later (by assumption) ?_; assumption))
              clear hK K hHeld
              try simp only [Act.put, List.setIfInBounds_toArray, List.set_cons_zero, List.set_cons_succ]
              refine wpAnyH_ready (rs := [5]) (by kernel_rfl) (by simp) ?_
              refine AllReadyH.cons (o := { dst := some 104, op := Go.Op.call { callee := Go.Callee.value (Go.Operand.func 41), args := #[Go.Operand.tmp 103], argTypes := #[57] }, type := 3, pos := "law.go:56", after := #[{ on := 4, ground := Go.Ground.data }, { on := 2, ground := Go.Ground.chain }], guard := none }) rfl (fun K hK => ?_) AllReadyH.nil
              go_simp
              refine (lenA bA bk bc _).mono ?_
              rintro e w25 ⟨rfl, hb5⟩
              go_wp2_with fail
              refine hK.out _ _ ?_ (fun hHeld2 => ?_)
              · (try dsimp only); (first | exact hS1 | (refine LTw.later (by assumption) ?_; assumption))
              clear hK K hHeld1
              try simp only [Act.put, List.setIfInBounds_toArray, List.set_cons_zero, List.set_cons_succ]
              refine wpAnyH_take (i := 6) (oi := { dst := some 105, op := Go.Op.binOp Go.BinOp.gtr 3 (Go.Operand.tmp 101) (Go.Operand.tmp 104) 3, type := 4, pos := "law.go:56", after := #[{ on := 2, ground := Go.Ground.data }, { on := 5, ground := Go.Ground.data }], guard := none }) (v := ?_) rfl (by kernel_rfl) (by kernel_rfl) (by kernel_rfl) (fun _ _ _ h => h) (Or.inl ⟨by rfl, ?_⟩) (by assumption) ?_
              rotate_left 1
              · intro w hSw; (obtain ⟨d0, d1, d2, d3, _⟩ := hSw); go_simp; try with_reducible rfl
              try simp only [Act.put, List.setIfInBounds_toArray, List.set_cons_zero, List.set_cons_succ]
              refine wpAnyH_take (i := 7) (oi := { dst := some 106, op := Go.Op.move (Go.Operand.tmp 105), type := 4, pos := "law.go:56", after := #[{ on := 6, ground := Go.Ground.data }, { on := 5, ground := Go.Ground.chain }], guard := none }) (v := ?_) rfl (by kernel_rfl) (by kernel_rfl) (by kernel_rfl) (fun _ _ _ h => h) (Or.inl ⟨by rfl, ?_⟩) (by assumption) ?_
              rotate_left 1
              · intro w hSw; (obtain ⟨d0, d1, d2, d3, _⟩ := hSw); go_simp; try with_reducible rfl
              try simp only [Act.put, List.setIfInBounds_toArray, List.set_cons_zero, List.set_cons_succ]
              refine wpAnyH_take (i := 8) (oi := { dst := some 107, op := Go.Op.fieldAddr 72 (Go.Operand.tmp 15) 1, type := 0, pos := "law.go:56", after := #[{ on := 7, ground := Go.Ground.guard }], guard := some (7, false) }) (v := ?_) rfl (by kernel_rfl) (by kernel_rfl) (by kernel_rfl) (fun _ _ _ h => h) (Or.inl ⟨by rfl, ?_⟩) (by assumption) ?_
              rotate_left 1
              · intro w hSw; (obtain ⟨d0, d1, d2, d3, _⟩ := hSw); go_simp; try with_reducible rfl
              try simp only [Act.put, List.setIfInBounds_toArray, List.set_cons_zero, List.set_cons_succ]
              refine wpAnyH_take (i := 9) (oi := { dst := some 108, op := Go.Op.load 57 (Go.Operand.tmp 107), type := 57, pos := "law.go:56", after := #[{ on := 8, ground := Go.Ground.data }, { on := 7, ground := Go.Ground.guard }], guard := some (7, false) }) (v := ?_) rfl (by kernel_rfl) (by kernel_rfl) (by kernel_rfl) (fun _ _ _ h => h) (Or.inl ⟨by rfl, ?_⟩) (by assumption) ?_
              rotate_left 1
              · intro w hSw; (obtain ⟨d0, d1, d2, d3, _⟩ := hSw); go_simp; try with_reducible rfl
              try simp only [Act.put, List.setIfInBounds_toArray, List.set_cons_zero, List.set_cons_succ]
              refine wpAnyH_take (i := 11) (oi := { dst := some 110, op := Go.Op.fieldAddr 72 (Go.Operand.tmp 16) 1, type := 0, pos := "law.go:56", after := #[{ on := 7, ground := Go.Ground.guard }], guard := some (7, false) }) (v := ?_) rfl (by kernel_rfl) (by kernel_rfl) (by kernel_rfl) (fun _ _ _ h => h) (Or.inl ⟨by rfl, ?_⟩) (by assumption) ?_
              rotate_left 1
              · intro w hSw; (obtain ⟨d0, d1, d2, d3, _⟩ := hSw); go_simp; try with_reducible rfl
              try simp only [Act.put, List.setIfInBounds_toArray, List.set_cons_zero, List.set_cons_succ]
              refine wpAnyH_take (i := 12) (oi := { dst := some 111, op := Go.Op.load 57 (Go.Operand.tmp 110), type := 57, pos := "law.go:56", after := #[{ on := 11, ground := Go.Ground.data }, { on := 7, ground := Go.Ground.guard }], guard := some (7, false) }) (v := ?_) rfl (by kernel_rfl) (by kernel_rfl) (by kernel_rfl) (fun _ _ _ h => h) (Or.inl ⟨by rfl, ?_⟩) (by assumption) ?_
              rotate_left 1
              · intro w hSw; (obtain ⟨d0, d1, d2, d3, _⟩ := hSw); go_simp; try with_reducible rfl
              try simp only [Act.put, List.setIfInBounds_toArray, List.set_cons_zero, List.set_cons_succ]
              refine wpAnyH_ready (rs := [10]) (by kernel_rfl) (by simp) ?_
              refine AllReadyH.cons (o := { dst := some 109, op := Go.Op.call { callee := Go.Callee.value (Go.Operand.func 41), args := #[Go.Operand.tmp 108], argTypes := #[57] }, type := 3, pos := "law.go:56", after := #[{ on := 9, ground := Go.Ground.data }, { on := 7, ground := Go.Ground.chain }, { on := 7, ground := Go.Ground.guard }], guard := some (7, false) }) rfl (fun K hK => ?_) AllReadyH.nil
              go_simp
              refine (lenA aA ak ac _).mono ?_
              rintro e w30 ⟨rfl, hb10⟩
              go_wp2_with fail
              refine hK.out _ _ ?_ (fun hHeld3 => ?_)
              · (try dsimp only); (first | exact hS1 | (refine LTw.later (by assumption) ?_; assumption))
              clear hK K hHeld2
              try simp only [Act.put, List.setIfInBounds_toArray, List.set_cons_zero, List.set_cons_succ]
              refine wpAnyH_ready (rs := [13]) (by kernel_rfl) (by simp) ?_
              refine AllReadyH.cons (o := { dst := some 112, op := Go.Op.call { callee := Go.Callee.value (Go.Operand.func 41), args := #[Go.Operand.tmp 111], argTypes := #[57] }, type := 3, pos := "law.go:56", after := #[{ on := 12, ground := Go.Ground.data }, { on := 10, ground := Go.Ground.chain }, { on := 7, ground := Go.Ground.guard }], guard := some (7, false) }) rfl (fun K hK => ?_) AllReadyH.nil
              go_simp
              refine (lenA bA bk bc _).mono ?_
              rintro e w33 ⟨rfl, hb13⟩
              go_wp2_with fail
              refine hK.out _ _ ?_ (fun hHeld4 => ?_)
              · (try dsimp only); (first | exact hS1 | (refine LTw.later (by assumption) ?_; assumption))
              clear hK K hHeld3
              try simp only [Act.put, List.setIfInBounds_toArray, List.set_cons_zero, List.set_cons_succ]
              refine wpAnyH_take (i := 14) (oi := { dst := some 113, op := Go.Op.binOp Go.BinOp.eql 3 (Go.Operand.tmp 109) (Go.Operand.tmp 112) 3, type := 4, pos := "law.go:56", after := #[{ on := 10, ground := Go.Ground.data }, { on := 13, ground := Go.Ground.data }, { on := 7, ground := Go.Ground.guard }], guard := some (7, false) }) (v := ?_) rfl (by kernel_rfl) (by kernel_rfl) (by kernel_rfl) (fun _ _ _ h => h) (Or.inl ⟨by rfl, ?_⟩) (by assumption) ?_
              rotate_left 1
              · intro w hSw; (obtain ⟨d0, d1, d2, d3, _⟩ := hSw); go_simp; try with_reducible rfl
              try simp only [Act.put, List.setIfInBounds_toArray, List.set_cons_zero, List.set_cons_succ]
              refine wpAnyH_take (i := 15) (oi := { dst := some 114, op := Go.Op.move (Go.Operand.tmp 113), type := 4, pos := "law.go:56", after := #[{ on := 14, ground := Go.Ground.data }, { on := 13, ground := Go.Ground.chain }, { on := 7, ground := Go.Ground.guard }], guard := some (7, false) }) (v := ?_) rfl (by kernel_rfl) (by kernel_rfl) (by kernel_rfl) (fun _ _ _ h => h) (Or.inl ⟨by rfl, ?_⟩) (by assumption) ?_
              rotate_left 1
              · intro w hSw; (obtain ⟨d0, d1, d2, d3, _⟩ := hSw); go_simp; try with_reducible rfl
              try simp only [Act.put, List.setIfInBounds_toArray, List.set_cons_zero, List.set_cons_succ]
              refine wpAnyH_take (i := 16) (oi := { dst := some 115, op := Go.Op.fieldAddr 72 (Go.Operand.tmp 15) 0, type := 0, pos := "law.go:56", after := #[{ on := 15, ground := Go.Ground.guard }], guard := some (15, true) }) (v := ?_) rfl (by kernel_rfl) (by kernel_rfl) (by kernel_rfl) (fun _ _ _ h => h) (Or.inl ⟨by rfl, ?_⟩) (by assumption) ?_
              rotate_left 1
              · intro w hSw; (obtain ⟨d0, d1, d2, d3, _⟩ := hSw); go_simp; try with_reducible rfl
              try simp only [Act.put, List.setIfInBounds_toArray, List.set_cons_zero, List.set_cons_succ]
              refine wpAnyH_take (i := 17) (oi := { dst := some 116, op := Go.Op.load 3 (Go.Operand.tmp 115), type := 3, pos := "law.go:56", after := #[{ on := 16, ground := Go.Ground.data }, { on := 15, ground := Go.Ground.guard }], guard := some (15, true) }) (v := ?_) rfl (by kernel_rfl) (by kernel_rfl) (by kernel_rfl) (fun _ _ _ h => h) (Or.inl ⟨by rfl, ?_⟩) (by assumption) ?_
              rotate_left 1
              · intro w hSw; (obtain ⟨d0, d1, d2, d3, _⟩ := hSw); go_simp; try with_reducible rfl
              try simp only [Act.put, List.setIfInBounds_toArray, List.set_cons_zero, List.set_cons_succ]
              refine wpAnyH_take (i := 18) (oi := { dst := some 117, op := Go.Op.fieldAddr 72 (Go.Operand.tmp 16) 0, type := 0, pos := "law.go:56", after := #[{ on := 15, ground := Go.Ground.guard }], guard := some (15, true) }) (v := ?_) rfl (by kernel_rfl) (by kernel_rfl) (by kernel_rfl) (fun _ _ _ h => h) (Or.inl ⟨by rfl, ?_⟩) (by assumption) ?_
              rotate_left 1
              · intro w hSw; (obtain ⟨d0, d1, d2, d3, _⟩ := hSw); go_simp; try with_reducible rfl
              try simp only [Act.put, List.setIfInBounds_toArray, List.set_cons_zero, List.set_cons_succ]
              refine wpAnyH_take (i := 19) (oi := { dst := some 118, op := Go.Op.load 3 (Go.Operand.tmp 117), type := 3, pos := "law.go:56", after := #[{ on := 18, ground := Go.Ground.data }, { on := 15, ground := Go.Ground.guard }], guard := some (15, true) }) (v := ?_) rfl (by kernel_rfl) (by kernel_rfl) (by kernel_rfl) (fun _ _ _ h => h) (Or.inl ⟨by rfl, ?_⟩) (by assumption) ?_
              rotate_left 1
              · intro w hSw; (obtain ⟨d0, d1, d2, d3, _⟩ := hSw); go_simp; try with_reducible rfl
              try simp only [Act.put, List.setIfInBounds_toArray, List.set_cons_zero, List.set_cons_succ]
              refine wpAnyH_take (i := 20) (oi := { dst := some 119, op := Go.Op.binOp Go.BinOp.geq 3 (Go.Operand.tmp 116) (Go.Operand.tmp 118) 3, type := 4, pos := "law.go:56", after := #[{ on := 17, ground := Go.Ground.data }, { on := 19, ground := Go.Ground.data }, { on := 15, ground := Go.Ground.guard }], guard := some (15, true) }) (v := ?_) rfl (by kernel_rfl) (by kernel_rfl) (by kernel_rfl) (fun _ _ _ h => h) (Or.inl ⟨by rfl, ?_⟩) (by assumption) ?_
              rotate_left 1
              · intro w hSw; (obtain ⟨d0, d1, d2, d3, _⟩ := hSw); go_simp; try with_reducible rfl
              try simp only [Act.put, List.setIfInBounds_toArray, List.set_cons_zero, List.set_cons_succ]
              refine wpAnyH_take (i := 21) (oi := { dst := some 120, op := Go.Op.pick (Go.Operand.tmp 114) (Go.Operand.tmp 119) (Go.Operand.const (Go.Value.bool false)), type := 4, pos := "law.go:56", after := #[{ on := 15, ground := Go.Ground.data }, { on := 20, ground := Go.Ground.data }, { on := 7, ground := Go.Ground.guard }], guard := some (7, false) }) (v := ?_) rfl (by kernel_rfl) (by kernel_rfl) (by kernel_rfl) (fun _ _ _ h => h) (Or.inl ⟨by rfl, ?_⟩) (by assumption) ?_
              rotate_left 1
              · intro w hSw; (obtain ⟨d0, d1, d2, d3, _⟩ := hSw); go_simp; try with_reducible rfl
              try simp only [Act.put, List.setIfInBounds_toArray, List.set_cons_zero, List.set_cons_succ]
              refine wpAnyH_take (i := 22) (oi := { dst := some 121, op := Go.Op.pick (Go.Operand.tmp 106) (Go.Operand.const (Go.Value.bool true)) (Go.Operand.tmp 120), type := 4, pos := "law.go:56", after := #[{ on := 7, ground := Go.Ground.data }, { on := 21, ground := Go.Ground.data }], guard := none }) (v := ?_) rfl (by kernel_rfl) (by kernel_rfl) (by kernel_rfl) (fun _ _ _ h => h) (Or.inl ⟨by rfl, ?_⟩) (by assumption) ?_
              rotate_left 1
              · intro w hSw; (obtain ⟨d0, d1, d2, d3, _⟩ := hSw); go_simp; try with_reducible rfl
              try simp only [Act.put, List.setIfInBounds_toArray, List.set_cons_zero, List.set_cons_succ]
              refine wpAnyH_done (by kernel_rfl) ?_ _
              have HB2 := Lib.hid hHeld4.2.2.2.2.out
              clear hHeld4 hS1
              go_wp2_with fail
              go_roundw
              case rel => exact ⟨i + 1, by go_num, Lib.hid ⟨by omega, .inl (by omega), HB2.out⟩⟩
              case measure => simp [intOf]; omega
            · have g2 : ((ak : Int) == (bk : Int)) = false := beq_eq_false_iff_ne.mpr (by omega)
              clear heq hro
              go_wp2_with fail
              refine wp_region_held_drew (S := (LTw P R y z aA ak ac bA bk bc w2)) (by kernel_rfl) (by (first | exact hS1 | (refine LTw.later (by assumption) ?_; assumption))) (fun hHeld => ?_)
              refine wpAnyH_take (i := 0) (oi := { dst := some 99, op := Go.Op.fieldAddr 72 (Go.Operand.tmp 15) 1, type := 0, pos := "law.go:56", after := #[], guard := none }) (v := ?_) rfl (by kernel_rfl) (by kernel_rfl) (by kernel_rfl) (fun _ _ _ h => h) (Or.inl ⟨by rfl, ?_⟩) (by assumption) ?_
              rotate_left 1
              · intro w hSw; (obtain ⟨d0, d1, d2, d3, _⟩ := hSw); go_simp; try with_reducible rfl
              try simp only [Act.put, List.setIfInBounds_toArray, List.set_cons_zero, List.set_cons_succ]
              refine wpAnyH_take (i := 1) (oi := { dst := some 100, op := Go.Op.load 57 (Go.Operand.tmp 99), type := 57, pos := "law.go:56", after := #[{ on := 0, ground := Go.Ground.data }], guard := none }) (v := ?_) rfl (by kernel_rfl) (by kernel_rfl) (by kernel_rfl) (fun _ _ _ h => h) (Or.inl ⟨by rfl, ?_⟩) (by assumption) ?_
              rotate_left 1
              · intro w hSw; (obtain ⟨d0, d1, d2, d3, _⟩ := hSw); go_simp; try with_reducible rfl
              try simp only [Act.put, List.setIfInBounds_toArray, List.set_cons_zero, List.set_cons_succ]
              refine wpAnyH_take (i := 3) (oi := { dst := some 102, op := Go.Op.fieldAddr 72 (Go.Operand.tmp 16) 1, type := 0, pos := "law.go:56", after := #[], guard := none }) (v := ?_) rfl (by kernel_rfl) (by kernel_rfl) (by kernel_rfl) (fun _ _ _ h => h) (Or.inl ⟨by rfl, ?_⟩) (by assumption) ?_
              rotate_left 1
              · intro w hSw; (obtain ⟨d0, d1, d2, d3, _⟩ := hSw); go_simp; try with_reducible rfl
              try simp only [Act.put, List.setIfInBounds_toArray, List.set_cons_zero, List.set_cons_succ]
              refine wpAnyH_take (i := 4) (oi := { dst := some 103, op := Go.Op.load 57 (Go.Operand.tmp 102), type := 57, pos := "law.go:56", after := #[{ on := 3, ground := Go.Ground.data }], guard := none }) (v := ?_) rfl (by kernel_rfl) (by kernel_rfl) (by kernel_rfl) (fun _ _ _ h => h) (Or.inl ⟨by rfl, ?_⟩) (by assumption) ?_
              rotate_left 1
              · intro w hSw; (obtain ⟨d0, d1, d2, d3, _⟩ := hSw); go_simp; try with_reducible rfl
              try simp only [Act.put, List.setIfInBounds_toArray, List.set_cons_zero, List.set_cons_succ]
              refine wpAnyH_ready (rs := [2]) (by kernel_rfl) (by simp) ?_
              refine AllReadyH.cons (o := { dst := some 101, op := Go.Op.call { callee := Go.Callee.value (Go.Operand.func 41), args := #[Go.Operand.tmp 100], argTypes := #[57] }, type := 3, pos := "law.go:56", after := #[{ on := 1, ground := Go.Ground.data }], guard := none }) rfl (fun K hK => ?_) AllReadyH.nil
              go_simp
              refine (lenA aA ak ac _).mono ?_
              rintro e w22 ⟨rfl, hb2⟩
              go_wp2_with fail
              refine hK.out _ _ ?_ (fun hHeld1 => ?_)
              · (try dsimp only); (first | exact hS1 | (refine LTw.later (by assumption) ?_; assumption))
              clear hK K hHeld
              try simp only [Act.put, List.setIfInBounds_toArray, List.set_cons_zero, List.set_cons_succ]
              refine wpAnyH_ready (rs := [5]) (by kernel_rfl) (by simp) ?_
              refine AllReadyH.cons (o := { dst := some 104, op := Go.Op.call { callee := Go.Callee.value (Go.Operand.func 41), args := #[Go.Operand.tmp 103], argTypes := #[57] }, type := 3, pos := "law.go:56", after := #[{ on := 4, ground := Go.Ground.data }, { on := 2, ground := Go.Ground.chain }], guard := none }) rfl (fun K hK => ?_) AllReadyH.nil
              go_simp
              refine (lenA bA bk bc _).mono ?_
              rintro e w25 ⟨rfl, hb5⟩
              go_wp2_with fail
              refine hK.out _ _ ?_ (fun hHeld2 => ?_)
              · (try dsimp only); (first | exact hS1 | (refine LTw.later (by assumption) ?_; assumption))
              clear hK K hHeld1
              try simp only [Act.put, List.setIfInBounds_toArray, List.set_cons_zero, List.set_cons_succ]
              refine wpAnyH_take (i := 6) (oi := { dst := some 105, op := Go.Op.binOp Go.BinOp.gtr 3 (Go.Operand.tmp 101) (Go.Operand.tmp 104) 3, type := 4, pos := "law.go:56", after := #[{ on := 2, ground := Go.Ground.data }, { on := 5, ground := Go.Ground.data }], guard := none }) (v := ?_) rfl (by kernel_rfl) (by kernel_rfl) (by kernel_rfl) (fun _ _ _ h => h) (Or.inl ⟨by rfl, ?_⟩) (by assumption) ?_
              rotate_left 1
              · intro w hSw; (obtain ⟨d0, d1, d2, d3, _⟩ := hSw); go_simp; try with_reducible rfl
              try simp only [Act.put, List.setIfInBounds_toArray, List.set_cons_zero, List.set_cons_succ]
              refine wpAnyH_take (i := 7) (oi := { dst := some 106, op := Go.Op.move (Go.Operand.tmp 105), type := 4, pos := "law.go:56", after := #[{ on := 6, ground := Go.Ground.data }, { on := 5, ground := Go.Ground.chain }], guard := none }) (v := ?_) rfl (by kernel_rfl) (by kernel_rfl) (by kernel_rfl) (fun _ _ _ h => h) (Or.inl ⟨by rfl, ?_⟩) (by assumption) ?_
              rotate_left 1
              · intro w hSw; (obtain ⟨d0, d1, d2, d3, _⟩ := hSw); go_simp; try with_reducible rfl
              try simp only [Act.put, List.setIfInBounds_toArray, List.set_cons_zero, List.set_cons_succ]
              refine wpAnyH_take (i := 8) (oi := { dst := some 107, op := Go.Op.fieldAddr 72 (Go.Operand.tmp 15) 1, type := 0, pos := "law.go:56", after := #[{ on := 7, ground := Go.Ground.guard }], guard := some (7, false) }) (v := ?_) rfl (by kernel_rfl) (by kernel_rfl) (by kernel_rfl) (fun _ _ _ h => h) (Or.inl ⟨by rfl, ?_⟩) (by assumption) ?_
              rotate_left 1
              · intro w hSw; (obtain ⟨d0, d1, d2, d3, _⟩ := hSw); go_simp; try with_reducible rfl
              try simp only [Act.put, List.setIfInBounds_toArray, List.set_cons_zero, List.set_cons_succ]
              refine wpAnyH_take (i := 9) (oi := { dst := some 108, op := Go.Op.load 57 (Go.Operand.tmp 107), type := 57, pos := "law.go:56", after := #[{ on := 8, ground := Go.Ground.data }, { on := 7, ground := Go.Ground.guard }], guard := some (7, false) }) (v := ?_) rfl (by kernel_rfl) (by kernel_rfl) (by kernel_rfl) (fun _ _ _ h => h) (Or.inl ⟨by rfl, ?_⟩) (by assumption) ?_
              rotate_left 1
              · intro w hSw; (obtain ⟨d0, d1, d2, d3, _⟩ := hSw); go_simp; try with_reducible rfl
              try simp only [Act.put, List.setIfInBounds_toArray, List.set_cons_zero, List.set_cons_succ]
              refine wpAnyH_take (i := 11) (oi := { dst := some 110, op := Go.Op.fieldAddr 72 (Go.Operand.tmp 16) 1, type := 0, pos := "law.go:56", after := #[{ on := 7, ground := Go.Ground.guard }], guard := some (7, false) }) (v := ?_) rfl (by kernel_rfl) (by kernel_rfl) (by kernel_rfl) (fun _ _ _ h => h) (Or.inl ⟨by rfl, ?_⟩) (by assumption) ?_
              rotate_left 1
              · intro w hSw; (obtain ⟨d0, d1, d2, d3, _⟩ := hSw); go_simp; try with_reducible rfl
              try simp only [Act.put, List.setIfInBounds_toArray, List.set_cons_zero, List.set_cons_succ]
              refine wpAnyH_take (i := 12) (oi := { dst := some 111, op := Go.Op.load 57 (Go.Operand.tmp 110), type := 57, pos := "law.go:56", after := #[{ on := 11, ground := Go.Ground.data }, { on := 7, ground := Go.Ground.guard }], guard := some (7, false) }) (v := ?_) rfl (by kernel_rfl) (by kernel_rfl) (by kernel_rfl) (fun _ _ _ h => h) (Or.inl ⟨by rfl, ?_⟩) (by assumption) ?_
              rotate_left 1
              · intro w hSw; (obtain ⟨d0, d1, d2, d3, _⟩ := hSw); go_simp; try with_reducible rfl
              try simp only [Act.put, List.setIfInBounds_toArray, List.set_cons_zero, List.set_cons_succ]
              refine wpAnyH_ready (rs := [10]) (by kernel_rfl) (by simp) ?_
              refine AllReadyH.cons (o := { dst := some 109, op := Go.Op.call { callee := Go.Callee.value (Go.Operand.func 41), args := #[Go.Operand.tmp 108], argTypes := #[57] }, type := 3, pos := "law.go:56", after := #[{ on := 9, ground := Go.Ground.data }, { on := 7, ground := Go.Ground.chain }, { on := 7, ground := Go.Ground.guard }], guard := some (7, false) }) rfl (fun K hK => ?_) AllReadyH.nil
              go_simp
              refine (lenA aA ak ac _).mono ?_
              rintro e w30 ⟨rfl, hb10⟩
              go_wp2_with fail
              refine hK.out _ _ ?_ (fun hHeld3 => ?_)
              · (try dsimp only); (first | exact hS1 | (refine LTw.later (by assumption) ?_; assumption))
              clear hK K hHeld2
              try simp only [Act.put, List.setIfInBounds_toArray, List.set_cons_zero, List.set_cons_succ]
              refine wpAnyH_ready (rs := [13]) (by kernel_rfl) (by simp) ?_
              refine AllReadyH.cons (o := { dst := some 112, op := Go.Op.call { callee := Go.Callee.value (Go.Operand.func 41), args := #[Go.Operand.tmp 111], argTypes := #[57] }, type := 3, pos := "law.go:56", after := #[{ on := 12, ground := Go.Ground.data }, { on := 10, ground := Go.Ground.chain }, { on := 7, ground := Go.Ground.guard }], guard := some (7, false) }) rfl (fun K hK => ?_) AllReadyH.nil
              go_simp
              refine (lenA bA bk bc _).mono ?_
              rintro e w33 ⟨rfl, hb13⟩
              go_wp2_with fail
              refine hK.out _ _ ?_ (fun hHeld4 => ?_)
              · (try dsimp only); (first | exact hS1 | (refine LTw.later (by assumption) ?_; assumption))
              clear hK K hHeld3
              try simp only [Act.put, List.setIfInBounds_toArray, List.set_cons_zero, List.set_cons_succ]
              refine wpAnyH_take (i := 14) (oi := { dst := some 113, op := Go.Op.binOp Go.BinOp.eql 3 (Go.Operand.tmp 109) (Go.Operand.tmp 112) 3, type := 4, pos := "law.go:56", after := #[{ on := 10, ground := Go.Ground.data }, { on := 13, ground := Go.Ground.data }, { on := 7, ground := Go.Ground.guard }], guard := some (7, false) }) (v := ?_) rfl (by kernel_rfl) (by kernel_rfl) (by kernel_rfl) (fun _ _ _ h => h) (Or.inl ⟨by rfl, ?_⟩) (by assumption) ?_
              rotate_left 1
              · intro w hSw; (obtain ⟨d0, d1, d2, d3, _⟩ := hSw); go_simp; try with_reducible rfl
              try simp only [Act.put, List.setIfInBounds_toArray, List.set_cons_zero, List.set_cons_succ]
              refine wpAnyH_take (i := 15) (oi := { dst := some 114, op := Go.Op.move (Go.Operand.tmp 113), type := 4, pos := "law.go:56", after := #[{ on := 14, ground := Go.Ground.data }, { on := 13, ground := Go.Ground.chain }, { on := 7, ground := Go.Ground.guard }], guard := some (7, false) }) (v := ?_) rfl (by kernel_rfl) (by kernel_rfl) (by kernel_rfl) (fun _ _ _ h => h) (Or.inl ⟨by rfl, ?_⟩) (by assumption) ?_
              rotate_left 1
              · intro w hSw; (obtain ⟨d0, d1, d2, d3, _⟩ := hSw); go_simp; try with_reducible rfl
              try simp only [Act.put, List.setIfInBounds_toArray, List.set_cons_zero, List.set_cons_succ]
              refine wpAnyH_take (i := 16) (oi := { dst := some 115, op := Go.Op.fieldAddr 72 (Go.Operand.tmp 15) 0, type := 0, pos := "law.go:56", after := #[{ on := 15, ground := Go.Ground.guard }], guard := some (15, true) }) (v := undef) rfl (by kernel_rfl) (by kernel_rfl) (by kernel_rfl) (fun _ _ _ h => h) (Or.inr ⟨by rfl, rfl⟩) (by assumption) ?_
              try simp only [Act.put, List.setIfInBounds_toArray, List.set_cons_zero, List.set_cons_succ]
              refine wpAnyH_take (i := 17) (oi := { dst := some 116, op := Go.Op.load 3 (Go.Operand.tmp 115), type := 3, pos := "law.go:56", after := #[{ on := 16, ground := Go.Ground.data }, { on := 15, ground := Go.Ground.guard }], guard := some (15, true) }) (v := undef) rfl (by kernel_rfl) (by kernel_rfl) (by kernel_rfl) (fun _ _ _ h => h) (Or.inr ⟨by rfl, rfl⟩) (by assumption) ?_
              try simp only [Act.put, List.setIfInBounds_toArray, List.set_cons_zero, List.set_cons_succ]
              refine wpAnyH_take (i := 18) (oi := { dst := some 117, op := Go.Op.fieldAddr 72 (Go.Operand.tmp 16) 0, type := 0, pos := "law.go:56", after := #[{ on := 15, ground := Go.Ground.guard }], guard := some (15, true) }) (v := undef) rfl (by kernel_rfl) (by kernel_rfl) (by kernel_rfl) (fun _ _ _ h => h) (Or.inr ⟨by rfl, rfl⟩) (by assumption) ?_
              try simp only [Act.put, List.setIfInBounds_toArray, List.set_cons_zero, List.set_cons_succ]
              refine wpAnyH_take (i := 19) (oi := { dst := some 118, op := Go.Op.load 3 (Go.Operand.tmp 117), type := 3, pos := "law.go:56", after := #[{ on := 18, ground := Go.Ground.data }, { on := 15, ground := Go.Ground.guard }], guard := some (15, true) }) (v := undef) rfl (by kernel_rfl) (by kernel_rfl) (by kernel_rfl) (fun _ _ _ h => h) (Or.inr ⟨by rfl, rfl⟩) (by assumption) ?_
              try simp only [Act.put, List.setIfInBounds_toArray, List.set_cons_zero, List.set_cons_succ]
              refine wpAnyH_take (i := 20) (oi := { dst := some 119, op := Go.Op.binOp Go.BinOp.geq 3 (Go.Operand.tmp 116) (Go.Operand.tmp 118) 3, type := 4, pos := "law.go:56", after := #[{ on := 17, ground := Go.Ground.data }, { on := 19, ground := Go.Ground.data }, { on := 15, ground := Go.Ground.guard }], guard := some (15, true) }) (v := undef) rfl (by kernel_rfl) (by kernel_rfl) (by kernel_rfl) (fun _ _ _ h => h) (Or.inr ⟨by rfl, rfl⟩) (by assumption) ?_
              try simp only [Act.put, List.setIfInBounds_toArray, List.set_cons_zero, List.set_cons_succ]
              refine wpAnyH_take (i := 21) (oi := { dst := some 120, op := Go.Op.pick (Go.Operand.tmp 114) (Go.Operand.tmp 119) (Go.Operand.const (Go.Value.bool false)), type := 4, pos := "law.go:56", after := #[{ on := 15, ground := Go.Ground.data }, { on := 20, ground := Go.Ground.data }, { on := 7, ground := Go.Ground.guard }], guard := some (7, false) }) (v := ?_) rfl (by kernel_rfl) (by kernel_rfl) (by kernel_rfl) (fun _ _ _ h => h) (Or.inl ⟨by rfl, ?_⟩) (by assumption) ?_
              rotate_left 1
              · intro w hSw; (obtain ⟨d0, d1, d2, d3, _⟩ := hSw); go_simp; try with_reducible rfl
              try simp only [Act.put, List.setIfInBounds_toArray, List.set_cons_zero, List.set_cons_succ]
              refine wpAnyH_take (i := 22) (oi := { dst := some 121, op := Go.Op.pick (Go.Operand.tmp 106) (Go.Operand.const (Go.Value.bool true)) (Go.Operand.tmp 120), type := 4, pos := "law.go:56", after := #[{ on := 7, ground := Go.Ground.data }, { on := 21, ground := Go.Ground.data }], guard := none }) (v := ?_) rfl (by kernel_rfl) (by kernel_rfl) (by kernel_rfl) (fun _ _ _ h => h) (Or.inl ⟨by rfl, ?_⟩) (by assumption) ?_
              rotate_left 1
              · intro w hSw; (obtain ⟨d0, d1, d2, d3, _⟩ := hSw); go_simp; try with_reducible rfl
              try simp only [Act.put, List.setIfInBounds_toArray, List.set_cons_zero, List.set_cons_succ]
              refine wpAnyH_done (by kernel_rfl) ?_ _
              have HB2 := Lib.hid hHeld4.2.2.2.2.out
              clear hHeld4 hS1
              go_wp2_with fail
              go_roundw
              case rel => exact ⟨i + 1, by go_num, Lib.hid ⟨by omega, .inl (by omega), HB2.out⟩⟩
              case measure => simp [intOf]; omega
        · have pp2 : ((i : Int) < (L.length : Int)) = False := eq_false (by omega)
          have HB2 := Lib.hid (below_two HM.out.2 HJ.out.2.2)
          go_wp2_with fail
          go_ret
          exact ⟨rfl, HB2.out⟩
theorem lof_calls (N : Nat) (A : Option Addr) (c : Nat) (es : List (Nat × Nat)) (W : World) (hN : N ≤ 255) (hA : Edges W A es) (hc : es.length ≤ c) :
    Calls Try.prog 12 #[.agg #[.int .u8 N, .slice A es.length c]] W fun e W' => e = .returned (.bool true) ∧ Below W.heap.size W W' := by
  by_cases hl : es.length ≤ 40
  · exact lof_near N A c es W hN hA hc hl
  · exact lof_far N A c es W hl
end Go.Proofs.Ytnkbbjeepdjamaa
