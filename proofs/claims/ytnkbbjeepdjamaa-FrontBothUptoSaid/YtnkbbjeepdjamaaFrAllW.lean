/- refinerylaw09.FrontAll: the walk. Conditions: the numbers are of their kinds. -/
import Derived.Test.YtnkbbjeepdjamaaFrAw
import Derived.Test.YtnkbbjeepdjamaaFrRef
import Derived.Test.YtnkbbjeepdjamaaDOvW
import Derived.Test.YtnkbbjeepdjamaaFrAll
import Derived.Test.YtnkbbjeepdjamaaFrAP
import Derived.Test.YtnkbbjeepdjamaaJoinI
namespace Go.Proofs.Ytnkbbjeepdjamaa
open Go.RowKit
/-- Small numbers in memory. -/
def U8s (W : World) (A : Option Addr) (zs : List Int) : Prop := ∀ (i : Nat) (hi : i < zs.length), (0 ≤ zs[i] ∧ zs[i] ≤ 255) ∧ ∃ g o, A = some ⟨g, o, none⟩ ∧ W.cell? ⟨g, o + i, none⟩ = some (.int .u8 zs[i])
theorem U8s.later {W W' : World} {A : Option Addr} {zs : List Int} (h : U8s W A zs) (hb : Below W.heap.size W W') : U8s W' A zs := fun i hi => by
  obtain ⟨h1, g, o, e, c⟩ := h i hi
  exact ⟨h1, g, o, e, (hb.cell (p := ⟨g, o + i, none⟩) (World.block_lt_of_cell? W _ c)).trans c⟩
/-- The set that is given, in its box. -/
structure St9 (V : World) (p9 : Nat) (m : Nat) (st : List Int) (W : World) : Prop where
  box : ∃ v, W.heap[p9]? = some (.cells #[v] 57 (0, 0)) ∧ IsSetI W p9 v st
  len : st.length ≤ m
  nat : ∀ x ∈ st, ∃ y : Nat, x = (y : Int)
  below : Below p9 V W
theorem St9.later {V W W' : World} {p9 m : Nat} {st : List Int} (h : St9 V p9 m st W) (hb : Below W.heap.size W W') : St9 V p9 m st W' := by
  obtain ⟨v, h1, h2⟩ := h.box
  exact ⟨⟨v, (hb.block p9 (lt_blk h1)).trans h1, h2.only (Only.of_below hb) (fun g hg e => by have := (isset_lt h2 hg).2; omega)⟩, h.len, h.nat, h.below.trans (hb.mono (by have := lt_blk h1; omega))⟩
theorem St9.add {V W : World} {p9 m : Nat} {st : List Int} (h : St9 V p9 m st W) (y : Nat) (hm : m ≤ 1000) :
    Calls Try.prog 38 #[.pointer (some ⟨p9, 0, none⟩), .int .i64 (y : Int)] W fun e W' => (∃ b, e = .returned (.bool b)) ∧ St9 V p9 (m + 1) (ins ltI (y : Int) st) W' ∧ Below p9 W W' := by
  obtain ⟨v, h1, h2⟩ := h.box
  have hlt := lt_blk h1
  refine (addI p9 p9 0 v st (y : Int) W h2 (by have := h.len; omega) #[v] 57 h1 rfl (isset_ne h2 h1 (by decide)) (by omega)).mono ?_
  rintro e W' ⟨v', rfl, k1, k2, k3⟩
  have hp := k2.blk _ _ _ h1
  simp at hp
  have hb : Below p9 W W' := k2.only.below (by omega) (fun k hk e => by
    rcases e with e | e
    · omega
    · have := (isset_lt h2 e).1; omega)
  refine ⟨⟨_, rfl⟩, ⟨⟨v', hp, k1⟩, ?_, fun x hx => ?_, h.below.trans hb⟩, hb⟩
  · have h7 := length_ins (lt := ltI) (y : Int) st
    have := h.len
    split at h7 <;> omega
  · rcases (mem_ins (y : Int) x st).1 hx with rfl | hx
    · exact ⟨y, rfl⟩
    · exact h.nat x hx
def bN : Value → Nat
  | .bool true => 1
  | _ => 0
/-- How far the rounds may still go. -/
noncomputable def MS (r n : Nat) (b : Value) (W : World) : Nat := leastOf (fun k => ∃ row, Seen W r row ∧ row.length = n ∧ k = (n - cnt row) + bN b)
theorem seen_uniq {W : World} {r : Nat} {s t : List Bool} (h : Seen W r s) (k : Seen W r t) : s = t := by
  have h1 : W.heap[r]? = some (.cells (s.map Value.bool).toArray 4 (0, 0)) := h
  have h2 : W.heap[r]? = some (.cells (t.map Value.bool).toArray 4 (0, 0)) := k
  rw [h1] at h2
  have h3 : s.map Value.bool = t.map Value.bool := by simpa using h2
  exact (List.map_inj_right (fun a b e => by injection e)).1 h3
theorem MS_eq {r n : Nat} {W : World} {b : Value} {row : List Bool} (h : Seen W r row) (hl : row.length = n) : MS r n b W = (n - cnt row) + bN b := by
  have h1 := (leastOf_spec (p := fun k => ∃ row, Seen W r row ∧ row.length = n ∧ k = (n - cnt row) + bN b) ⟨_, row, h, hl, rfl⟩).1
  obtain ⟨row', k1, k2, k3⟩ := h1
  rw [seen_uniq h k1]
  exact k3
/-- Between two rounds over all places. -/
def Rnd9 (R : Nat → Nat → Prop) (st : List Int) (n r : Nat) (b : Bool) (W : World) : Prop := ∃ row, Seen W r row ∧ row.length = n ∧ (∀ v, tr row v = true → Cl R n (fun z => z ∈ st) v) ∧ (b = false → ∀ i, i < n → Shut1 R st n row i)
/-- What the last test reads. -/
def FGr (p r j : Nat) (v : Value) (rb : Bool) (base : Nat) (O : List Int) (X0 X : World) : Prop :=
  X.cell? ⟨p, 0, none⟩ = some v ∧ X.cell? ⟨r, j, none⟩ = some (.bool rb) ∧ Hid (IsSetI X base v O ∧ Below X0.heap.size X0 X)
theorem FGr.later {p r j : Nat} {v : Value} {rb : Bool} {base : Nat} {O : List Int} {X0 X X' : World} (h : FGr p r j v rb base O X0 X) (hb : Below X.heap.size X X') : FGr p r j v rb base O X0 X' := by
  obtain ⟨h1, h2, h4⟩ := h
  have k : ∀ {p : Addr} {v : Value}, X.cell? p = some v → X'.cell? p = some v := fun hc => (hb.cell (World.block_lt_of_cell? X _ hc)).trans hc
  exact ⟨k h1, k h2, Lib.hid ⟨h4.out.1.only (Only.of_below hb) (fun g hg e => by have := (isset_lt h4.out.1 hg).2; omega), below_two h4.out.2 hb⟩⟩
/-- What the law's end reads. -/
def FSr9 (p : Nat) (v : Value) (st : List Int) (X0 X : World) : Prop := X.cell? ⟨p, 0, none⟩ = some v ∧ Hid (IsSetI X p v st ∧ Below X0.heap.size X0 X)
theorem FSr9.later {p : Nat} {v : Value} {st : List Int} {X0 X X' : World} (h : FSr9 p v st X0 X) (hb : Below X.heap.size X X') : FSr9 p v st X0 X' :=
  ⟨(hb.cell (World.block_lt_of_cell? X _ h.1)).trans h.1, Lib.hid ⟨h.2.out.1.only (Only.of_below hb) (fun g hg e => by have := (isset_lt h.2.out.1 hg).2; omega), below_two h.2.out.2 hb⟩⟩
theorem onil {O : List Int} {P : Nat → Nat → Prop} {s : Int → Prop} (h : ∀ x : Int, x ∈ O ↔ ∃ y : Nat, x = (y : Int) ∧ Cl P 0 s y) : O = [] := by
  cases O with
  | nil => rfl
  | cons x l =>
    obtain ⟨y, _, hy⟩ := (h x).1 List.mem_cons_self
    cases hy with
    | base _ hv _ => omega
    | step _ hv _ => omega
set_option maxHeartbeats 2000000 in
theorem fall_far (A4 : Option Addr) (c4 : Nat) (zs : List Int) (N : Nat) (A : Option Addr) (c : Nat) (es : List (Nat × Nat)) (W : World) (hl : ¬ es.length ≤ 40) :
    Calls Try.prog 10 #[.agg #[.int .u8 N, .slice A es.length c], .slice A4 zs.length c4] W fun e W' => e = .returned (.bool true) ∧ Below W.heap.size W W' := by
  go_enter Try.func10, Try.ntmps10
  go_wp2_with fail
  generalize hX : World.alloc W _ = X
  obtain ⟨hx, hbx, hz⟩ := boxed hX rfl
  have HX := Lib.hid (And.intro hx (And.intro hbx hz))
  clear hX hx hbx hz
  refine (awake9 X).mono ?_
  rintro e W1 ⟨rfl, hb⟩
  have H1 := Lib.hid (And.intro ((hb.block _ (lt_blk HX.out.1)).trans HX.out.1) (below_two HX.out.2.1 hb))
  clear hb HX
  have x0 := cell_of_blk _ _ _ _ _ H1.out.1 0
  have x1 := cell_of_blk _ _ _ _ _ H1.out.1 1
  simp at x0 x1
  go_wp2_with fail
  clear x0 x1
  refine (light_calls7 N A es.length c W1).mono ?_
  rintro e W2 ⟨rfl, hb⟩
  have hbel := below_two H1.out.2 hb
  rw [decide_eq_false hl]
  clear hb H1
  go_wp2_with fail
  go_ret
  exact ⟨rfl, hbel⟩
set_option maxRecDepth 100000 in
set_option maxHeartbeats 8000000 in
theorem fall_near (A4 : Option Addr) (c4 : Nat) (zs : List Int) (N : Nat) (A : Option Addr) (c : Nat) (es : List (Nat × Nat)) (W : World) (hN : N ≤ 255) (hA : Edges W A es) (hc : es.length ≤ c) (hl : es.length ≤ 40) (hzl : zs.length ≤ 12) (hU : U8s W A4 zs) :
    Calls Try.prog 10 #[.agg #[.int .u8 N, .slice A es.length c], .slice A4 zs.length c4] W fun e W' => e = .returned (.bool true) ∧ Below W.heap.size W W' := by
  have HA := Lib.hid (And.intro hA hc)
  clear hA hc
  obtain ⟨n, hn⟩ : ∃ n, 1 + N % 12 = n := ⟨_, rfl⟩
  have hn0 : 0 < n := by omega
  have hn12 : n ≤ 12 := by omega
  have HN := Lib.hid hn
  clear hn
  go_enter Try.func10, Try.ntmps10
  go_wp2_with fail
  generalize hX : World.alloc W _ = X
  obtain ⟨hx, hbx, hz⟩ := boxed hX rfl
  have HX := Lib.hid (And.intro hx (And.intro hbx hz))
  clear hX hx hbx hz
  refine (awake9 X).mono ?_
  rintro e W1 ⟨rfl, hb⟩
  have H1 := Lib.hid (And.intro ((hb.block _ (lt_blk HX.out.1)).trans HX.out.1) (below_two HX.out.2.1 hb))
  clear hb HX
  have x0 := cell_of_blk _ _ _ _ _ H1.out.1 0
  have x1 := cell_of_blk _ _ _ _ _ H1.out.1 1
  simp at x0 x1
  go_wp2_with fail
  clear x0 x1
  refine (light_calls7 N A es.length c W1).mono ?_
  rintro e W2 ⟨rfl, hb⟩
  have H2 := Lib.hid (And.intro ((hb.block _ (lt_blk H1.out.1)).trans H1.out.1) (below_two H1.out.2 hb))
  rw [decide_eq_true hl]
  have pz : ((12 : Int) < (zs.length : Int)) = False := eq_false (by omega)
  have HU := Lib.hid hU
  clear hU
  clear hb H1
  have x0 := cell_of_blk _ _ _ _ _ H2.out.1 0
  have x1 := cell_of_blk _ _ _ _ _ H2.out.1 1
  simp at x0 x1
  go_wp2_with fail
  clear x0 x1
  have hsc := small_calls N hN A c es W2 (HA.out.1.later H2.out.2) HA.out.2 (by omega)
  rw [HN.out] at hsc
  have HSC := Lib.hid hsc
  clear hsc
  refine HSC.out.mono ?_
  rintro e W3 ⟨gv, q, vs, S, rfl, hg, hm, hap, hb3⟩
  have hrw := graph_rows n hn0 es
  have htw := graph_twin n hn0 es
  generalize graphB n es = b at *
  generalize graphA n es = a at *
  obtain ⟨q1, p1, rfl⟩ := hg.form
  rw [hrw.lb] at hg ⊢
  have HG := Lib.hid (And.intro (hg.lower H2.out.2.size) (And.intro (hm.lower H2.out.2.size) (And.intro (below_two H2.out.2 hb3) (And.intro hrw htw))))
  clear hg hm hap hb3 hrw htw HSC H2
  go_wp2_with fail
  generalize hX : World.alloc W3 _ = X
  obtain ⟨hx, hbx, hz⟩ := boxed hX rfl
  have hlb := HG.out.2.2.2.1.lb
  have hfew : Few b := HG.out.2.2.2.1.fewOf (by omega)
  have hbl : ∀ (i : Nat) (l : List Nat), b[i]? = some l → l.length ≤ 1048575 := fun i l hi => by have := (HG.out.2.2.2.1.few i l hi).1; omega
  have hal : ∀ (i : Nat) (l : List Nat), a[i]? = some l → l.length ≤ 1048575 := fun i l hi => by have := (HG.out.2.2.2.1.fewA i l hi).1; omega
  obtain ⟨B, hB⟩ : ∃ k, W3.heap.size = k := ⟨_, rfl⟩
  have hS : GSr B q1 p1 n W.heap.size b a S W X := by
    rw [← hB]
    exact ⟨cell_of_blk _ _ _ _ _ hx 0, cell_of_blk _ _ _ _ _ hx 1, Lib.hid ⟨HG.out.1.later hbx, below_two HG.out.2.2.1 hbx⟩⟩
  have hSd := hS.later (X' := X.drew) ((Below.refl X.heap.size X).drew)
  have HF := Lib.hid (And.intro hlb (And.intro hfew (And.intro HG.out.2.2.2.2 (And.intro hbl (And.intro hal (And.intro (HG.out.2.1.later hbx) (And.intro (below_two HG.out.2.2.1 hbx).size (show n ≤ 1048575 by omega))))))))
  rw [hB]
  clear hX hx hbx hz hlb hfew hbl hal HG hB
  go_region_held3 (fun Y => Y.cell? ⟨B, 0, none⟩ = some (.slice (some ⟨q1, 0, none⟩) n n) ∧ Y.cell? ⟨B, 1, none⟩ = some (.slice (some ⟨p1, 0, none⟩) n n) ∧ Hid (Gr Y W.heap.size (.agg #[.slice (some ⟨q1, 0, none⟩) n n, .slice (some ⟨p1, 0, none⟩) n n]) b a S ∧ Below W.heap.size W Y))
    (first | exact hSd | exact (hSd.later hb1).later hb2 | exact hSd.later hb1)
    (first
      | (go_at_call 19; refine (of_calls hn0 HF.out.2.2.2.2.2.2.2 _ hSd.2.2.out.1 HF.out.1 HF.out.2.1 HF.out.2.2.1 HF.out.2.2.2.1 HF.out.2.2.2.2.1 HF.out.2.2.2.2.2.2.1).mono ?_; rintro e w1 ⟨qu, qb, qd, ts, up, deep, rfl, htr, hdt, hb1⟩)
      | (go_at_call 32; refine (front_calls (hSd.later hb1).2.2.out.1 HF.out.1 HF.out.2.1 HF.out.2.2.1 HF.out.2.2.2.2.2.2.2 HF.out.2.2.2.2.1 htr hdt).mono ?_; rintro e w2 ⟨Q, S', rfl, hbg, hb2⟩))
  rename_i hh
  have HE := Lib.hid (And.intro hbg (And.intro ((HF.out.2.2.2.2.2.1.later (Below.refl X.heap.size X).drew).later (below_two hb1 hb2)) hh.2.2.out.2))
  clear hh hbg hb1 hb2 htr hdt hS hSd
  have hfr := frontR_calls HE.out.2.1 HF.out.2.1 HF.out.1 HF.out.2.2.2.1 (fun i _ => wayO_neg)
  have HFR := Lib.hid hfr
  clear hfr
  go_wp2_with fail
  refine HFR.out.mono ?_
  rintro e V ⟨A2, c2, qs, rfl, htb, hb⟩
  have HV := Lib.hid (And.intro (HE.out.1.later hb) (And.intro htb (below_two HE.out.2.2 hb)))
  clear htb hb HE HFR
  obtain ⟨g0, o0, rfl⟩ : ∃ g o, A2 = some ⟨g, o, none⟩ := by
    rcases HV.out.2.1.row with ⟨h1, h2⟩ | ⟨g, o, cap, cur, h1, _⟩
    · have h3 : qs = [] := by simpa using h2
      have h4 := HV.out.2.1.len
      rw [h3] at h4
      simp at h4
      omega
    · injection h1 with h1; exact ⟨g, o, h1⟩
  go_upto_region 9 with (fail)
  generalize hX9 : World.alloc V _ = X9
  obtain ⟨p9, hp9⟩ : ∃ k, V.heap.size = k := ⟨_, rfl⟩
  have hs9 : St9 V p9 0 [] X9 := by
    rw [← hX9, ← hp9]
    exact ⟨⟨_, heap_alloc_new' V _, ⟨World.ownsRow_nil _ _ _ _, List.Pairwise.nil⟩⟩, by simp, fun x hx => by simp at hx, (Below.refl _ _).alloc (Nat.le_refl _) _⟩
  have HP := Lib.hid hp9
  have H9 := Lib.hid hs9
  rw [hp9]
  clear hX9 hs9 hp9
  go_wp2_with fail
  go_loopw [41] (fun v wr => ∃ i : Nat, v = .int .i64 (i : Int) ∧ Hid (i ≤ zs.length ∧ ∃ st, St9 V p9 i st wr)) (fun v _ => zs.length - (intOf v).toNat)
  case atStart => exact ⟨0, rfl, Lib.hid ⟨Nat.zero_le _, [], H9.out⟩⟩
  case round =>
    obtain ⟨wo, rfl⟩ : ∃ x : World, x = wr := ⟨_, rfl⟩
    obtain ⟨i, rfl, HI⟩ := hrel
    obtain ⟨hi0, st, hst⟩ := HI.out
    clear HI
    by_cases hi : i < zs.length
    · have pp1 : ((i : Int) < (zs.length : Int)) = True := eq_true (by omega)
      have i0 : 0 ≤ (i : Int) := by omega
      have i1 : (i : Int) < (zs.length : Int) := by omega
      have hbw : Below W.heap.size W wo := HV.out.2.2.trans (hst.below.mono (by have := HV.out.2.2.size; have := HP.out; omega))
      obtain ⟨hz, g, o, rfl, c8⟩ := (HU.out.later hbw) i hi
      obtain ⟨y, hy⟩ : ∃ y : Nat, zs[i] = (y : Int) := ⟨zs[i].toNat, by omega⟩
      rw [hy] at c8 hz
      have HST := Lib.hid hst
      clear hbw hy hst
      go_wp2_with fail
      rw [show (y : Int) % ((n : Int) + 2) = ((y % (n + 2) : Nat) : Int) from by rw [Int.natCast_emod, Int.natCast_add]; rfl]
      refine (HST.out.add (y % (n + 2)) (by omega)).mono ?_
      rintro e W8 ⟨⟨b8, rfl⟩, hs8, hb8⟩
      have HS8 := Lib.hid hs8
      clear hs8 hb8 c8
      go_wp2_with fail
      go_roundw
      case rel => exact ⟨i + 1, by go_num, Lib.hid ⟨by omega, _, HS8.out⟩⟩
      case measure => simp [intOf]; omega
    · obtain rfl : i = zs.length := by omega
      have pp1 : ((zs.length : Int) < (zs.length : Int)) = False := eq_false (by omega)
      have hmk := mk_falses n (by omega)
      have HST := Lib.hid hst
      have hbV : Below V.heap.size V wo := by have := hst.below; rwa [← HP.out] at this
      have HV2 := Lib.hid (And.intro (HV.out.1.later hbV) (And.intro (HV.out.2.1.later hbV) (below_two HV.out.2.2 hbV)))
      clear hst hbV
      go_upto_region 15 with (fail)
      clear pp1
      generalize hY : World.alloc wo _ = Y
      obtain ⟨hy, hby, hyz⟩ := boxed hY rfl
      obtain ⟨r, hr⟩ : ∃ k, wo.heap.size = k := ⟨_, rfl⟩
      have HY := Lib.hid (And.intro (show Seen Y r (List.replicate n false) from hr ▸ hy) (And.intro hby hr))
      rw [hr]
      clear hY hy hby hyz hr hmk
      go_wp2_with fail
      go_loopw [13] (fun v wr => ∃ bb : Bool, v = .bool bb ∧ Hid (Below wo.heap.size wo wr ∧ Rnd9 (LT.FrontR (nb b)) st n r bb wr)) (fun v wr => MS r n v wr)
      case atStart => exact ⟨true, rfl, Lib.hid ⟨HY.out.2.1, _, HY.out.1, by simp, (fun v hv => by rw [show tr (List.replicate n false) v = false from tr_falses n v] at hv; cases hv), (fun e => by cases e)⟩⟩
      case round =>
        obtain ⟨wp, rfl⟩ : ∃ x : World, x = wr := ⟨_, rfl⟩
        obtain ⟨bb, rfl, HI⟩ := hrel
        obtain ⟨hb0, row0, hs0, hl0, hsd0, hsh0⟩ := HI.out
        clear HI
        cases bb
        · have hfin := PSf.fin (R := LT.FrontR (nb b)) (st := st) (n := n) (row0 := row0) (row := row0) ⟨hl0, hsd0, (fun e => by cases e), Nat.le_refl _, fun _ => ⟨rfl, fun r hr => hsh0 rfl r hr⟩⟩ (fun r v hv => by
            obtain ⟨u, hu, _⟩ := hv
            have h1 := nb_lt HF.out.2.1 hu
            have h2 := HF.out.1
            omega)
          have hst9 := HST.out.later hb0
          obtain ⟨v9, k1, k2⟩ := hst9.box
          have c9 := cell_of_blk _ _ _ _ _ k1 0
          simp at c9
          have hcl := frontAll_calls (w := wp) (n := n) (fun _ => HV2.out.1.later hb0) (by omega) (A := some ⟨Q, 0, none⟩) (fun _ => rfl) k2 (by have := hst9.len; omega)
          have HCL := Lib.hid hcl
          have HI := Lib.hid (And.intro hb0 (And.intro hs0 (And.intro hl0 (And.intro hfin hst9))))
          clear hb0 hs0 hl0 hsd0 hsh0 hfin hst9 k1 k2 hcl
          go_wp2_with fail
          clear c9
          refine HCL.out.mono ?_
          rintro e W8 ⟨vg, O, rfl, hsg, hog, hb8⟩
          obtain ⟨A6, c6, rfl, hc6, hm6⟩ := SI.isset_cellsAt hsg
          have H8 := Lib.hid (And.intro hsg (And.intro hog (And.intro hb8 hm6)))
          clear hsg hog hb8 hc6 HCL
          go_upto_region 30 with (fail)
          generalize hZ : World.alloc W8 _ = Z
          obtain ⟨hz, hbz, hzz⟩ := boxed hZ rfl
          obtain ⟨p16, hp16⟩ : ∃ k, W8.heap.size = k := ⟨_, rfl⟩
          obtain ⟨vg, hvg⟩ : ∃ v, (Value.slice A6 O.length c6) = v := ⟨_, rfl⟩
          have HZ := Lib.hid (And.intro (hp16 ▸ hz) (And.intro (below_two H8.out.2.2.1 hbz) (H8.out.1.only (Only.of_below hbz) (fun g hg e => by have := (isset_lt H8.out.1 hg).2; omega))))
          rw [hvg] at HZ ⊢
          rw [hp16]
          have HVG := Lib.hid hvg
          clear hvg
          clear hZ hz hbz hzz hp16
          go_wp2_with fail
          go_loopw [102] (fun v wr => ∃ j : Nat, v = .int .i64 (j : Int) ∧ Hid (j ≤ n ∧ Below Z.heap.size Z wr)) (fun v _ => n - (intOf v).toNat)
          case atStart => exact ⟨0, rfl, Lib.hid ⟨Nat.zero_le _, Below.refl _ _⟩⟩
          case round =>
            obtain ⟨wq, rfl⟩ : ∃ x : World, x = wr := ⟨_, rfl⟩
            obtain ⟨j, rfl, HJ⟩ := hrel
            by_cases hj : j < n
            · have pp2 : ((j : Int) < (n : Int)) = True := eq_true (by omega)
              have j0 : 0 ≤ (j : Int) := by omega
              have j1 : (j : Int) < (n : Int) := by omega
              have hbq := below_two HZ.out.2.1 HJ.out.2
              have hsr := HI.out.2.1.only (Only.of_below hbq) (by have := lt_blk HI.out.2.1; omega)
              have cr := seen_tr hsr HI.out.2.2.1 hj
              have cg := cell_of_blk _ _ _ _ _ ((HJ.out.2.block p16 (lt_blk HZ.out.1)).trans HZ.out.1) 0
              simp at cg
              obtain ⟨rb, hrb⟩ : ∃ x, tr row0 j = x := ⟨_, rfl⟩
              rw [hrb] at cr
              have hsg := HZ.out.2.2.only (Only.of_below HJ.out.2) (fun g hg e => by have := (isset_lt HZ.out.2.2 hg).2; omega)
              have hS : FGr p16 r j vg rb wp.heap.size O Z wq := ⟨cg, cr, Lib.hid ⟨hsg, HJ.out.2⟩⟩
              have hSd := hS.later (X' := wq.drew) ((Below.refl wq.heap.size wq).drew)
              have HX := Lib.hid (show rb = decide ((j : Int) ∈ O) from by
                have h1 := HI.out.2.2.2.1 j
                have h2 := H8.out.2.1 (j : Int)
                rw [hrb] at h1
                cases rb
                · symm
                  refine decide_eq_false (fun h => ?_)
                  obtain ⟨y, e, hy⟩ := h2.1 h
                  obtain rfl : j = y := by omega
                  have := h1.2 hy; cases this
                · symm
                  exact decide_eq_true (h2.2 ⟨j, rfl, h1.1 rfl⟩))
              have hol : O.length ≤ 1048576 := by
                have h1 := set_len (N := n) H8.out.1.srt (fun x hx => by
                  obtain ⟨y, e, hy⟩ := (H8.out.2.1 x).1 hx
                  refine ⟨y, e, ?_⟩
                  cases hy with
                  | base _ _ hp => exact HV2.out.1.few _ _ hp
                  | step _ _ hp => exact HV2.out.1.few _ _ hp)
                omega
              clear hbq hsr cr cg hrb hsg hS
              go_wp2_with fail
              go_region_held3 (fun Y => Y.cell? ⟨p16, 0, none⟩ = some vg ∧ Y.cell? ⟨r, j, none⟩ = some (.bool rb) ∧ Hid (IsSetI Y wp.heap.size vg O ∧ Below Z.heap.size Z Y))
                (first | exact hSd | exact hSd.later hb1)
                (first | (go_at_call 34; refine (hasI wp.heap.size vg O (j : Int) _ hSd.2.2.out.1 hol).mono ?_; rintro e w1 ⟨rfl, hb1⟩))
              have hb2 := below_two HJ.out.2 (below_two ((Below.refl wq.heap.size wq).drew) hb1)
              have HB2 := Lib.hid hb2
              rename_i hh
              clear hb1 hb2 hSd hh
              rw [← HX.out]
              cases rb
              all_goals
                go_wp2_with fail
                go_roundw
                case rel => exact ⟨j + 1, by go_num, Lib.hid ⟨by omega, HB2.out⟩⟩
                case measure => simp [intOf]; omega
            · obtain rfl : j = n := by have := HJ.out.1; omega
              have pp2 : ((j : Int) < (j : Int)) = False := eq_false (by omega)
              have hst := HI.out.2.2.2.2.later (below_two HZ.out.2.1 HJ.out.2)
              obtain ⟨v8, k1, k2⟩ := hst.box
              have hS : FSr9 p9 v8 st wq wq := ⟨by have := cell_of_blk _ _ _ _ _ k1 0; simpa using this, Lib.hid ⟨k2, Below.refl _ _⟩⟩
              have hSd := hS.later (X' := wq.drew) ((Below.refl wq.heap.size wq).drew)
              have hln : st.length ≤ 300 := by have := hst.len; omega
              have HBW := Lib.hid (below_two HV2.out.2.2 (below_two HI.out.1 (below_two HZ.out.2.1 HJ.out.2)))
              clear hst k1 k2 hS
              go_wp2_with fail
              clear pp2
              go_region_held3 (fun Y => Y.cell? ⟨p9, 0, none⟩ = some v8 ∧ Hid (IsSetI Y p9 v8 st ∧ Below wq.heap.size wq Y))
                (first | exact hSd | exact hSd.later hb1 | exact (hSd.later hb1).later hb2 | exact ((hSd.later hb1).later hb2).later hb3 | exact (((hSd.later hb1).later hb2).later hb3).later hb4)
                (first
                  | (go_at_call 40; refine (SI.clone p9 v8 st _ hSd.2.out.1 (by omega)).mono ?_; rintro e w1 ⟨vc, rfl, hsc, hb1⟩)
                  | (go_at_call 39; refine (SI.same p9 _ v8 vc st st _ (hSd.later hb1).2.out.1 hsc).mono ?_; rintro e w2 ⟨rfl, hb2⟩)
                  | (go_at_call 35; refine (frontAll_calls (n := 0) (P := fun _ _ => False) (base1 := 0) (QB := 0) (SB := fun _ => False) (fun h => absurd h (by omega)) (by omega) (A := none) (fun h => absurd h (by omega)) ((hSd.later hb1).later hb2).2.out.1 hln).mono ?_; rintro e w3 ⟨vn, On, rfl, hsn, hon, hb3⟩; obtain rfl : On = [] := onil hon)
                  | (go_at_call 41; refine (lenI _ vn [] _ hsn).mono ?_; rintro e w4 ⟨rfl, hb4⟩))
              rename_i hh
              have HB9 := Lib.hid (below_two HBW.out hh.2.out.2)
              clear hh hSd hb1 hb2 hb3 hb4 hsc hsn hon
              go_wp2_with fail
              go_ret
              exact ⟨rfl, HB9.out⟩
        · have HI := Lib.hid (And.intro hb0 (And.intro hs0 (And.intro hl0 hsd0)))
          have HM0 := Lib.hid (MS_eq (b := .bool true) hs0 hl0)
          clear hb0 hs0 hl0 hsd0 hsh0
          go_wp2_with fail
          go_loopw [59, 13] (fun v f wr => ∃ (i : Nat) (bb : Bool), v = .int .i64 (i : Int) ∧ f = .bool bb ∧ Hid (i ≤ n ∧ Below wo.heap.size wo wr ∧ ∃ row, Seen wr r row ∧ PSf (LT.FrontR (nb b)) st n row0 i bb row)) (fun v _ _ => n - (intOf v).toNat)
          case atStart => exact ⟨0, false, rfl, rfl, Lib.hid ⟨Nat.zero_le _, HI.out.1, row0, HI.out.2.1, PSf.start HI.out.2.2.1 HI.out.2.2.2⟩⟩
          case round =>
            obtain ⟨wq, rfl⟩ : ∃ x : World, x = wr := ⟨_, rfl⟩
            obtain ⟨i, bb, rfl, rfl, HJ⟩ := hrel
            obtain ⟨hin, hbq, row, hsr, hps⟩ := HJ.out
            clear HJ
            by_cases hi : i < n
            · have pp2 : ((i : Int) < (n : Int)) = True := eq_true (by omega)
              have i0 : 0 ≤ (i : Int) := by omega
              have i1 : (i : Int) < (n : Int) := by omega
              have ci := seen_tr hsr hps.len hi
              obtain ⟨rI, hrI⟩ : ∃ x, tr row i = x := ⟨_, rfl⟩
              rw [hrI] at ci
              have HJ := Lib.hid (And.intro hbq (And.intro hsr (And.intro hps hrI)))
              clear hbq hsr hps hrI
              cases rI
              · have hbx := (HST.out.later HJ.out.1).box
                obtain ⟨v9, k1, k2⟩ := hbx
                have c9 := cell_of_blk _ _ _ _ _ k1 0
                simp at c9
                have hh := hasI p9 v9 st (i : Int) wq k2 (by have := HST.out.len; omega)
                have HH := Lib.hid hh
                clear k1 k2 hh
                go_wp2_with fail
                clear ci c9
                refine HH.out.mono ?_
                rintro e W8 ⟨rfl, hb8⟩
                have HX4 := Lib.hid (And.intro (below_two HJ.out.1 hb8) (And.intro (HJ.out.2.1.only (Only.of_below hb8) (by have := lt_blk HJ.out.2.1; omega)) HJ.out.2.2.1))
                by_cases hm : (i : Int) ∈ st
                · rw [decide_eq_true hm]
                  have HA := Lib.hid (show Act1 st row i from .inr hm)
                  clear hm hb8 HH
                  go_wp2_with fail
                  go_loopw [75, 13] (fun v f wr => ∃ (j : Nat) (bb : Bool), v = .int .i64 (j : Int) ∧ f = .bool bb ∧ Hid (j ≤ n ∧ Below wo.heap.size wo wr ∧ ∃ row, Seen wr r row ∧ PSg (LT.FrontR (nb b)) st n row0 i j bb row)) (fun v _ _ => n - (intOf v).toNat)
                  case atStart => exact ⟨0, bb, rfl, rfl, Lib.hid ⟨Nat.zero_le _, HX4.out.1, row, HX4.out.2.1, HX4.out.2.2.enter HA.out⟩⟩
                  case round =>
                    obtain ⟨wz, rfl⟩ : ∃ x : World, x = wr := ⟨_, rfl⟩
                    obtain ⟨j, bb4, rfl, rfl, HK⟩ := hrel
                    obtain ⟨hjn, hbz, row4, hs4, hps4⟩ := HK.out
                    clear HK
                    by_cases hj : j < n
                    · have pp3 : ((j : Int) < (n : Int)) = True := eq_true (by omega)
                      have j0 : 0 ≤ (j : Int) := by omega
                      have j1 : (j : Int) < (n : Int) := by omega
                      obtain ⟨qa, rb, ca, cb, hrb⟩ := (HV2.out.2.1.later hbz).at2 hi hj
                      have cj := seen_tr hs4 hps4.ps.len hj
                      have fj := hs4.frozen j
                      obtain ⟨rJ, hrJ⟩ : ∃ x, tr row4 j = x := ⟨_, rfl⟩
                      rw [hrJ] at cj
                      have hset := hs4.set j true
                      have hbs : Below wo.heap.size wo (wz.setCell ⟨r, j, none⟩ (.bool true)) := hbz.setCell (by show wo.heap.size ≤ r; rw [HY.out.2.2]; exact Nat.le_refl _) _
                      have HK := Lib.hid (And.intro hbz (And.intro hs4 (And.intro hps4 (And.intro hrJ (And.intro hrb (And.intro hset hbs))))))
                      clear hbz hs4 hps4 hrJ hrb hset hbs
                      cases rb
                      · go_wp2_with fail
                        go_roundw
                        case rel => exact ⟨j + 1, bb4, by go_num, rfl, Lib.hid ⟨by omega, HK.out.1, row4, HK.out.2.1, HK.out.2.2.1.skip (fun e => by have := HK.out.2.2.2.2.1.2 e; cases this)⟩⟩
                        case measure => simp [intOf]; omega
                      · cases rJ
                        · go_wp2_with fail
                          go_roundw
                          case rel => exact ⟨j + 1, true, by go_num, rfl, Lib.hid ⟨by omega, HK.out.2.2.2.2.2.2, _, HK.out.2.2.2.2.2.1, HK.out.2.2.1.put hi hj (HK.out.2.2.2.2.1.1 (by simp)) HK.out.2.2.2.1⟩⟩
                          case measure => simp [intOf]; omega
                        · go_wp2_with fail
                          go_roundw
                          case rel => exact ⟨j + 1, bb4, by go_num, rfl, Lib.hid ⟨by omega, HK.out.1, row4, HK.out.2.1, HK.out.2.2.1.skip (fun _ => HK.out.2.2.2.1)⟩⟩
                          case measure => simp [intOf]; omega
                    · obtain rfl : j = n := by omega
                      have pp3 : ((j : Int) < (j : Int)) = False := eq_false (by omega)
                      have HK := Lib.hid (And.intro hbz (And.intro hs4 hps4.leave))
                      clear hbz hs4 hps4
                      go_wp2_with fail
                      go_roundw
                      case rel => exact ⟨i + 1, bb4, by go_num, rfl, Lib.hid ⟨by omega, HK.out.1, row4, HK.out.2.1, HK.out.2.2⟩⟩
                      case measure => simp [intOf]; omega
                · rw [decide_eq_false hm]
                  have HN := Lib.hid (show ¬ Act1 st row i from fun e => by
                    rcases e with e | e
                    · rw [HJ.out.2.2.2] at e; cases e
                    · exact hm e)
                  clear hm hb8 HH
                  go_wp2_with fail
                  go_roundw
                  case rel => exact ⟨i + 1, bb, by go_num, rfl, Lib.hid ⟨by omega, HX4.out.1, row, HX4.out.2.1, HX4.out.2.2.skip HN.out⟩⟩
                  case measure => simp [intOf]; omega
              · have HA := Lib.hid (show Act1 st row i from .inl HJ.out.2.2.2)
                have HX4 := Lib.hid (And.intro HJ.out.1 (And.intro HJ.out.2.1 HJ.out.2.2.1))
                go_wp2_with fail
                clear ci
                go_loopw [75, 13] (fun v f wr => ∃ (j : Nat) (bb : Bool), v = .int .i64 (j : Int) ∧ f = .bool bb ∧ Hid (j ≤ n ∧ Below wo.heap.size wo wr ∧ ∃ row, Seen wr r row ∧ PSg (LT.FrontR (nb b)) st n row0 i j bb row)) (fun v _ _ => n - (intOf v).toNat)
                case atStart => exact ⟨0, bb, rfl, rfl, Lib.hid ⟨Nat.zero_le _, HX4.out.1, row, HX4.out.2.1, HX4.out.2.2.enter HA.out⟩⟩
                case round =>
                  obtain ⟨wz, rfl⟩ : ∃ x : World, x = wr := ⟨_, rfl⟩
                  obtain ⟨j, bb4, rfl, rfl, HK⟩ := hrel
                  obtain ⟨hjn, hbz, row4, hs4, hps4⟩ := HK.out
                  clear HK
                  by_cases hj : j < n
                  · have pp3 : ((j : Int) < (n : Int)) = True := eq_true (by omega)
                    have j0 : 0 ≤ (j : Int) := by omega
                    have j1 : (j : Int) < (n : Int) := by omega
                    obtain ⟨qa, rb, ca, cb, hrb⟩ := (HV2.out.2.1.later hbz).at2 hi hj
                    have cj := seen_tr hs4 hps4.ps.len hj
                    have fj := hs4.frozen j
                    obtain ⟨rJ, hrJ⟩ : ∃ x, tr row4 j = x := ⟨_, rfl⟩
                    rw [hrJ] at cj
                    have hset := hs4.set j true
                    have hbs : Below wo.heap.size wo (wz.setCell ⟨r, j, none⟩ (.bool true)) := hbz.setCell (by show wo.heap.size ≤ r; rw [HY.out.2.2]; exact Nat.le_refl _) _
                    have HK := Lib.hid (And.intro hbz (And.intro hs4 (And.intro hps4 (And.intro hrJ (And.intro hrb (And.intro hset hbs))))))
                    clear hbz hs4 hps4 hrJ hrb hset hbs
                    cases rb
                    · go_wp2_with fail
                      go_roundw
                      case rel => exact ⟨j + 1, bb4, by go_num, rfl, Lib.hid ⟨by omega, HK.out.1, row4, HK.out.2.1, HK.out.2.2.1.skip (fun e => by have := HK.out.2.2.2.2.1.2 e; cases this)⟩⟩
                      case measure => simp [intOf]; omega
                    · cases rJ
                      · go_wp2_with fail
                        go_roundw
                        case rel => exact ⟨j + 1, true, by go_num, rfl, Lib.hid ⟨by omega, HK.out.2.2.2.2.2.2, _, HK.out.2.2.2.2.2.1, HK.out.2.2.1.put hi hj (HK.out.2.2.2.2.1.1 (by simp)) HK.out.2.2.2.1⟩⟩
                        case measure => simp [intOf]; omega
                      · go_wp2_with fail
                        go_roundw
                        case rel => exact ⟨j + 1, bb4, by go_num, rfl, Lib.hid ⟨by omega, HK.out.1, row4, HK.out.2.1, HK.out.2.2.1.skip (fun _ => HK.out.2.2.2.1)⟩⟩
                        case measure => simp [intOf]; omega
                  · obtain rfl : j = n := by omega
                    have pp3 : ((j : Int) < (j : Int)) = False := eq_false (by omega)
                    have HK := Lib.hid (And.intro hbz (And.intro hs4 hps4.leave))
                    clear hbz hs4 hps4
                    go_wp2_with fail
                    go_roundw
                    case rel => exact ⟨i + 1, bb4, by go_num, rfl, Lib.hid ⟨by omega, HK.out.1, row4, HK.out.2.1, HK.out.2.2⟩⟩
                    case measure => simp [intOf]; omega
            · obtain rfl : i = n := by omega
              have pp2 : ((i : Int) < (i : Int)) = False := eq_false (by omega)
              have HJ := Lib.hid (And.intro hbq (And.intro hsr hps))
              have HM1 := Lib.hid (MS_eq (b := .bool bb) hsr hps.len)
              clear hbq hsr hps
              go_wp2_with fail
              go_roundw
              case rel => exact ⟨bb, rfl, Lib.hid ⟨HJ.out.1, row, HJ.out.2.1, HJ.out.2.2.len, HJ.out.2.2.sound, fun e i hi => ((HJ.out.2.2.same e).2 i hi)⟩⟩
              case measure =>
                have h1 := HM0.out
                have h2 := HM1.out
                have h3 := cnt_le row
                have h4 := HJ.out.2.2.len
                have h5 := HJ.out.2.2.mono
                simp at h1 h2 ⊢
                rw [h1, h2]
                cases bb
                · simp [bN]; omega
                · have h6 := HJ.out.2.2.ch rfl
                  simp [bN]; omega
set_option maxHeartbeats 2000000 in
theorem fall_far2 (A4 : Option Addr) (c4 : Nat) (zs : List Int) (hz : ¬ zs.length ≤ 12) (N : Nat) (A : Option Addr) (c : Nat) (es : List (Nat × Nat)) (W : World) (hl : es.length ≤ 40) :
    Calls Try.prog 10 #[.agg #[.int .u8 N, .slice A es.length c], .slice A4 zs.length c4] W fun e W' => e = .returned (.bool true) ∧ Below W.heap.size W W' := by
  go_enter Try.func10, Try.ntmps10
  go_wp2_with fail
  generalize hX : World.alloc W _ = X
  obtain ⟨hx, hbx, hz⟩ := boxed hX rfl
  have HX := Lib.hid (And.intro hx (And.intro hbx hz))
  clear hX hx hbx hz
  refine (awake9 X).mono ?_
  rintro e W1 ⟨rfl, hb⟩
  have H1 := Lib.hid (And.intro ((hb.block _ (lt_blk HX.out.1)).trans HX.out.1) (below_two HX.out.2.1 hb))
  clear hb HX
  have x0 := cell_of_blk _ _ _ _ _ H1.out.1 0
  have x1 := cell_of_blk _ _ _ _ _ H1.out.1 1
  simp at x0 x1
  go_wp2_with fail
  clear x0 x1
  refine (light_calls7 N A es.length c W1).mono ?_
  rintro e W2 ⟨rfl, hb⟩
  have hbel := below_two H1.out.2 hb
  rw [decide_eq_true hl]
  have pz : ((12 : Int) < (zs.length : Int)) = True := eq_true (by omega)
  clear hb H1
  go_wp2_with fail
  go_ret
  exact ⟨rfl, hbel⟩
theorem fall_calls (A4 : Option Addr) (m c4 : Nat) (zs : List Int) (hm : zs.length = m) (N : Nat) (A : Option Addr) (c : Nat) (es : List (Nat × Nat)) (W : World) (hN : N ≤ 255) (hA : Edges W A es) (hc : es.length ≤ c) (hU : U8s W A4 zs) :
    Calls Try.prog 10 #[.agg #[.int .u8 N, .slice A es.length c], .slice A4 m c4] W fun e W' => e = .returned (.bool true) ∧ Below W.heap.size W W' := by
  subst hm
  by_cases hl : es.length ≤ 40
  · by_cases hz : zs.length ≤ 12
    · exact fall_near A4 c4 zs N A c es W hN hA hc hl hz hU
    · exact fall_far2 A4 c4 zs hz N A c es W hl
  · exact fall_far A4 c4 zs N A c es W hl
theorem u8s_of {W : World} {A : Option Addr} {zs : List Int} (h1 : ∀ z ∈ zs, 0 ≤ z ∧ z ≤ 255) (h2 : ∀ (i : Nat) (hi : i < zs.length), ∃ g o, A = some ⟨g, o, none⟩ ∧ g < W.heap.size ∧ W.cell? ⟨g, o + i, none⟩ = some (.int .u8 zs[i])) : U8s W A zs := fun i hi => by
  obtain ⟨g, o, e, _, c⟩ := h2 i hi
  exact ⟨h1 _ (List.getElem_mem hi), g, o, e, c⟩
end Go.Proofs.Ytnkbbjeepdjamaa
