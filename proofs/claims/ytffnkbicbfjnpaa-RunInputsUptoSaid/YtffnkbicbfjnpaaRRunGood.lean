/- What run.Run comes to, of a program that may be one. Conditions: no phis; the inputs are read; no more than 1048576 steps. -/
import Derived.Test.YtffnkbicbfjnpaaRRun
import Derived.StillTailTactics
import Derived.BigQuiet
import Derived.Deep.QuietTactic
namespace Go.Proofs.Ytffnkbicbfjnpaa
open Go.RowKit Go.Proofs.Ytffnkbicbfjnpaa.PRunFuel
open Go.Proofs.YtffnkbicbfjnpaaW.PrintWords (ReadsInt rd Kd)
/-- What stands beside the machine while a program runs. -/
structure Beside (w wr : World) (A : Option Addr) (n c amp : Nat) (f : Int → Nat) : Prop where
  below : Below w.heap.size w wr
  q : wr.heap[w.heap.size]? = some (.cells #[.slice A n c] 57 (0, 0))
  r : wr.heap[w.heap.size + 1]? = some (.cells #[.int .u8 0, .int .i64 0, .slice none 0 0, .int .i64 0] 60 (0, 0))
  a : ∃ al, MapIs wr amp .i64 al ∧ ∀ x, (getK al x).getD (.int .i64 0) = .int .i64 (f x)
  ne : w.heap.size + 4 ≤ amp
theorem Beside.step {S : Nat → Prop} {w wr X : World} {A : Option Addr} {n c amp : Nat} {f : Int → Nat} (h : Beside w wr A n c amp f) (ho : Only S wr X) (hq : ∀ k, S k → w.heap.size + 2 ≤ k ∧ k ≠ amp) : Beside w X A n c amp f := by
  obtain ⟨al, hm, hg⟩ := h.a
  exact ⟨h.below.trans (ho.below h.below.size (fun k hk e => by have := (hq k e).1; omega)), (ho.block _ (Array.getElem?_eq_some_iff.1 h.q).1 (fun e => by have := (hq _ e).1; omega)).trans h.q, (ho.block _ (Array.getElem?_eq_some_iff.1 h.r).1 (fun e => by have := (hq _ e).1; omega)).trans h.r, ⟨al, hm.only ho (fun e => (hq _ e).2 rfl), hg⟩, h.ne⟩
theorem Beside.later {w wr X : World} {A : Option Addr} {n c amp : Nat} {f : Int → Nat} (h : Beside w wr A n c amp f) (hb : Below wr.heap.size wr X) : Beside w X A n c amp f := by
  obtain ⟨al, hm, _⟩ := h.a
  exact h.step (Only.of_below hb) (fun k hk => by have := (Array.getElem?_eq_some_iff.1 h.r).1; have := hm.lt; omega)
theorem Beside.look {w wr : World} {A : Option Addr} {n c amp : Nat} {f : Int → Nat} (h : Beside w wr A n c amp f) (x : Int) : (Instr.lookup 83 (.map (some amp)) (.int .i64 x) false).run Try.prog wr = .ok (.int .i64 (f x)) wr := by
  obtain ⟨al, hm, hg⟩ := h.a
  have := run_lookupK (P := Try.prog) Try.underlying83 Try.underlying3 (z := .int .i64 0) (fun w => by kernel_rfl) hm x
  rwa [hg] at this
theorem post_of {B : Nat} {S : Nat → Prop} {w0 W V Y : World} {p mp : Nat} {m : Mc} {e v : Int} {al : List (Int × Value)} {A A' : Option Addr} {n c c' amp : Nat} {f : Int → Nat} {tv : Value} (hb : Beside W V A' n c' amp f) (hM : Mach B S w0 V p mp m e v al A c tv) (hB : W.heap.size ≤ B) (ho : Only (fun k => k = W.heap.size + 1) V Y) :
    RunPost ⟨e, v, m.trace, m.steps⟩ W (.returned (ov ⟨e, v, m.trace, m.steps⟩ tv)) Y :=
  ⟨tv, rfl, own_base (own_only ho hM.tr (fun g hg e => own_ne_blk hM.tr hb.r (by decide) (by rw [hg, e]))) hB, hb.below.trans (ho.below hb.below.size (fun k hk e => by omega))⟩
theorem Mach.trv {B : Nat} {S : Nat → Prop} {w0 W : World} {p mp : Nat} {m : Mc} {e v : Int} {al : List (Int × Value)} {A : Option Addr} {c : Nat} {tv : Value} (h : Mach B S w0 W p mp m e v al A c tv) : ∃ A' c', tv = .slice A' m.trace.length c' := by
  rcases own_forms h.tr with ⟨h1, h2, _⟩ | ⟨g, cap, _, h1, _⟩
  · exact ⟨none, 0, by rw [h1, h2]⟩
  · exact ⟨_, cap, h1⟩
/-- A block's box. -/
def boxB (b : S31) (A1 : Option Addr) (c1 : Nat) (A2 : Option Addr) (c2 : Nat) : Obj := .cells #[.int .i64 b.f0, .slice A1 b.f1.length c1, .slice A2 b.f2.length c2, .int .u8 b.f3.f0, .int .i64 b.f3.f1, .int .i64 b.f3.f2, .int .i64 b.f3.f3] 31
theorem blk_keep {w0 V V' : World} {B : Nat} {S : Nat → Prop} {p mp q : Nat} {m : Mc} {e v : Int} {al : List (Int × Value)} {A : Option Addr} {c : Nat} {tv : Value} {cs : Array Value} {t : TypeId} (hM : Mach B S w0 V p mp m e v al A c tv) (hq : V.heap[q]? = some (.cells cs t (0, 0))) (h1 : t ≠ 132) (h2 : 2 ≠ t) (ho : Only (own p mp tv) V V') : V'.heap[q]? = some (.cells cs t (0, 0)) := by
  refine (ho.block q (Array.getElem?_eq_some_iff.1 hq).1 (fun hs => ?_)).trans hq
  rcases hs with hs | hs | hs
  · have := hM.blk; rw [← hs, hq] at this; injection this with this; injection this with _ this; exact h1 this
  · obtain ⟨es, cl, hh, _⟩ := hM.map.blk; rw [← hs, hq] at hh; cases hh
  · exact own_ne_blk hM.tr hq h2 hs
theorem ibox_cells {V : World} {q : Nat} {x : S38} (hq : V.heap[q]? = some (.cells #[.int .u8 x.f0, .int .u8 x.f1, .int .i64 x.f2, .int .i64 x.f3, .int .i64 x.f4, .int .i64 x.f5, .int .i64 x.f6] 38 (0, 0))) :
    V.cell? ⟨q, 0, none⟩ = some (.int .u8 x.f0) ∧ V.cell? ⟨q, 1, none⟩ = some (.int .u8 x.f1) ∧ V.cell? ⟨q, 2, none⟩ = some (.int .i64 x.f2) ∧ V.cell? ⟨q, 3, none⟩ = some (.int .i64 x.f3) ∧ V.cell? ⟨q, 4, none⟩ = some (.int .i64 x.f4) ∧ V.cell? ⟨q, 5, none⟩ = some (.int .i64 x.f5) ∧ V.cell? ⟨q, 6, none⟩ = some (.int .i64 x.f6) := by
  refine ⟨?_, ?_, ?_, ?_, ?_, ?_, ?_⟩ <;> (rw [cell_of_blk _ _ _ _ _ hq]; rfl)
theorem rblk {V : World} {r : Nat} {a0 a1 a2 a3 : Value} {t : TypeId} (h : V.heap[r]? = some (.cells #[a0, a1, a2, a3] t (0, 0))) :
    V.cell? ⟨r, 0, none⟩ = some a0 ∧ V.cell? ⟨r, 1, none⟩ = some a1 ∧ V.cell? ⟨r, 2, none⟩ = some a2 ∧ V.cell? ⟨r, 3, none⟩ = some a3 ∧ V.frozen? ⟨r, 0, none⟩ = false ∧ V.frozen? ⟨r, 1, none⟩ = false ∧ V.frozen? ⟨r, 2, none⟩ = false ∧ V.frozen? ⟨r, 3, none⟩ = false := by
  refine ⟨?_, ?_, ?_, ?_, ?_, ?_, ?_, ?_⟩ <;> first | (rw [cell_of_blk _ _ _ _ _ h]; rfl) | simp [World.frozen?, h]
theorem box_keep {w0 V V' : World} {B : Nat} {S : Nat → Prop} {p mp q : Nat} {m : Mc} {e v : Int} {al : List (Int × Value)} {A A1 A2 : Option Addr} {c c1 c2 : Nat} {tv : Value} {b : S31} (hM : Mach B S w0 V p mp m e v al A c tv) (hq : V.heap[q]? = some (boxB b A1 c1 A2 c2)) (ho : Only (own p mp tv) V V') : V'.heap[q]? = some (boxB b A1 c1 A2 c2) := by
  refine (ho.block q (Array.getElem?_eq_some_iff.1 hq).1 (fun hs => ?_)).trans hq
  rcases hs with hs | hs | hs
  · have := hM.blk; rw [← hs, hq] at this; unfold boxB at this; injection this with this; injection this with _ this; exact absurd this (by decide)
  · obtain ⟨es, cl, hh, _⟩ := hM.map.blk; rw [← hs, hq] at hh; cases hh
  · exact own_ne_blk hM.tr hq (by decide) hs
theorem box_cells {V : World} {q : Nat} {A1 A2 : Option Addr} {c1 c2 : Nat} {b : S31} (hq : V.heap[q]? = some (boxB b A1 c1 A2 c2)) :
    V.cell? ⟨q, 0, none⟩ = some (.int .i64 b.f0) ∧ V.cell? ⟨q, 1, none⟩ = some (.slice A1 b.f1.length c1) ∧ V.cell? ⟨q, 2, none⟩ = some (.slice A2 b.f2.length c2) ∧ V.cell? ⟨q, 3, none⟩ = some (.int .u8 b.f3.f0) ∧ V.cell? ⟨q, 4, none⟩ = some (.int .i64 b.f3.f1) ∧ V.cell? ⟨q, 5, none⟩ = some (.int .i64 b.f3.f2) ∧ V.cell? ⟨q, 6, none⟩ = some (.int .i64 b.f3.f3) := by
  unfold boxB at hq
  refine ⟨?_, ?_, ?_, ?_, ?_, ?_, ?_⟩ <;> (rw [cell_of_blk _ _ _ _ _ hq]; rfl)
set_option maxRecDepth 100000 in
set_option maxHeartbeats 4000000 in
theorem run_good (p : List S31) (A Ai : Option Addr) (c ci : Nat) (inp : List Int) (F : Nat) (W : World) (hF : (F : Int) ≤ 1048576) (hA : Kd.C k31 W A p.length p) (hc : p.length ≤ c) (hm : countP p ≤ 1099511627776) (hp : ∀ b ∈ p, b.f1 = []) (hin : ReadsInt W .i64 Ai inp.length inp) (hci : inp.length ≤ ci) (hok : okP p) :
    Calls Try.prog 29 #[.agg #[.slice A p.length c], .slice Ai inp.length ci, .int .i64 F] W fun e W' => RunPost (runB p F (F + 1) 0 (-1) (mc0 inp)) W e W' := by
  obtain ⟨R, hR⟩ : ∃ R, runB p F (F + 1) 0 (-1) (mc0 inp) = R := ⟨_, rfl⟩
  rw [hR]
  have HR := Lib.hid hR
  clear hR
  have HS := Lib.hid (run_start W (.slice A p.length c) Ai ci inp)
  have hl4 : p.length ≤ 400 := hok.most
  have HA := Lib.hid (And.intro hA (And.intro hc (And.intro hm (And.intro hp hok))))
  have HIN := Lib.hid (And.intro hin hci)
  clear hA hc hm hp hok hin hci
  have hmm := @run_makeMap Try.prog
  go_enter Try.func29, Try.ntmps29
  go_wp2_with fail
  generalize hX : World.alloc (World.alloc (World.alloc (World.alloc W _) _) _) _ = X
  obtain ⟨hb, h1, h2, h3, h4⟩ := HS.out X hX
  clear hX HS
  refine (check_calls p A c X (Kd.C_below HA.out.1 hb) HA.out.2.1 HA.out.2.2.1 HA.out.2.2.2.1).mono ?_
  rintro e W2 ⟨cc, rfl, hcc, hb2⟩
  obtain rfl : cc = 0 := hcc.2 HA.out.2.2.2.2
  have hq2 := (hb2.block _ (Array.getElem?_eq_some_iff.1 h1).1).trans h1
  have hr2 := (hb2.block _ (Array.getElem?_eq_some_iff.1 h2).1).trans h2
  have hm2 : MapIs W2 (W.heap.size + 1 + 1) .i64 [] := h3.only (Only.of_below hb2) (by have := h3.lt; omega)
  have hp2 := (hb2.block _ (Array.getElem?_eq_some_iff.1 h4).1).trans h4
  have hs2 : W.heap.size + 4 ≤ W2.heap.size := by have := (Array.getElem?_eq_some_iff.1 hp2).1; omega
  obtain ⟨W3, hW3⟩ : ∃ W3, W2.alloc (.map #[] 0) = W3 := ⟨_, rfl⟩
  have hb3 : Below W2.heap.size W2 W3 := hW3 ▸ (Below.refl _ _).alloc (Nat.le_refl _) _
  have ha3 : MapIs W3 W2.heap.size .i64 [] := hW3 ▸ MapIs.new W2 .i64
  have hq3 := (hb3.block _ (by omega)).trans hq2
  have HBS : Hid (Beside W W3 A p.length c W2.heap.size (atF [])) := ⟨below_two hb (below_two hb2 hb3), hq3, (hb3.block _ (by omega)).trans hr2, ⟨[], ha3, fun _ => rfl⟩, hs2⟩
  have HMM : Hid (MapIs W3 (W.heap.size + 1 + 1) .i64 [] ∧ W3.heap[W.heap.size + 1 + 1 + 1]? = some (.cells (mcells (W.heap.size + 1 + 1) (mc0 inp) 0 0 Ai ci (.slice none 0 0)).toArray 132 (0, 0))) :=
    ⟨hm2.only (Only.of_below hb3) (by omega), (hb3.block _ (by omega)).trans hp2⟩
  have hc3 : W3.cell? ⟨W.heap.size, 0, none⟩ = some (.slice A p.length c) := by rw [cell_of_blk _ _ _ _ _ hq3]; rfl
  rw [← hW3] at hc3
  have HW3 := Lib.hid hW3
  have HS2 := Lib.hid hs2
  clear hcc hq2 hr2 hm2 hp2 hs2 hb3 ha3 hq3 hW3 hb hb2 h1 h2 h3 h4
  go_wp2
  rw [HW3.out]
  clear hmm hc3 HW3
  generalize W2.heap.size = amp at *
  go_loopw [30] (fun i wr => ∃ k : Nat, i = .int .i64 (k : Int) ∧ Hid (k ≤ p.length ∧ Beside W wr A p.length c amp (atF (p.take k)) ∧ MapIs wr (W.heap.size + 1 + 1) .i64 [] ∧ wr.heap[W.heap.size + 1 + 1 + 1]? = some (.cells (mcells (W.heap.size + 1 + 1) (mc0 inp) 0 0 Ai ci (.slice none 0 0)).toArray 132 (0, 0)))) (fun i _ => p.length - (intOf i).toNat)
  case atStart => exact ⟨0, rfl, by omega, HBS.out, HMM.out.1, HMM.out.2⟩
  case round =>
    obtain ⟨k, rfl, HK⟩ := hrel
    by_cases hk : k < p.length
    · have HB := Lib.hid HK.out.2.1.below
      obtain ⟨ad, A1, c1, A2, c2, e102, x0, x1, x2, x3, x4, x5, x6, _, _, _, _⟩ := at_T31 HA.out.1 (k : Int) (by omega) (by omega)
      cases e102
      rw [rd_mem hk] at x0 x1 x2 x3 x4 x5 x6
      obtain ⟨b, hb⟩ : ∃ b, p[k] = b := ⟨_, rfl⟩
      rw [hb] at x0 x1 x2 x3 x4 x5 x6
      rw [Int.toNat_natCast] at x0 x1 x2 x3 x4 x5 x6
      replace x0 := (HB.out.cell (World.block_lt_of_cell? _ _ x0)).trans x0
      replace x1 := (HB.out.cell (World.block_lt_of_cell? _ _ x1)).trans x1
      replace x2 := (HB.out.cell (World.block_lt_of_cell? _ _ x2)).trans x2
      replace x3 := (HB.out.cell (World.block_lt_of_cell? _ _ x3)).trans x3
      replace x4 := (HB.out.cell (World.block_lt_of_cell? _ _ x4)).trans x4
      replace x5 := (HB.out.cell (World.block_lt_of_cell? _ _ x5)).trans x5
      replace x6 := (HB.out.cell (World.block_lt_of_cell? _ _ x6)).trans x6
      have p1 : ((k : Int) < (p.length : Int)) = True := eq_true (by omega)
      have p2 : (0 ≤ (k : Int)) = True := eq_true (by omega)
      have HBB := Lib.hid hb
      clear hb
      go_upto_region 9 with (fail)
      refine wp_named fun Y hY => ?_
      have hbY : Below wr.heap.size wr Y := by
        rw [hY]
        repeat (refine Below.setCell ?_ (Nat.le_refl _) _)
        exact (Below.refl _ _).alloc (Nat.le_refl _) _
      have y0 : Y.cell? ⟨wr.heap.size, 0, none⟩ = some (.int .i64 b.f0) := by rw [hY]; go_simp
      have hbs := HK.out.2.1.later hbY
      obtain ⟨al, hal, hgl⟩ := hbs.a
      obtain ⟨Y2, hrun, hm2, ho2⟩ := run_updK (P := Try.prog) Try.underlying83 Try.underlying3 hal b.f0 (.int .i64 (k : Int))
      have hl2 := (HK.out.2.2.1).lt
      have hl3 := (Array.getElem?_eq_some_iff.1 HK.out.2.2.2).1
      have hl1 := hbs.ne
      have hnext : Hid (k + 1 ≤ p.length ∧ Beside W Y2 (some ad) p.length c amp (atF (p.take (k + 1))) ∧ MapIs Y2 (W.heap.size + 1 + 1) .i64 [] ∧ Y2.heap[W.heap.size + 1 + 1 + 1]? = some (.cells (mcells (W.heap.size + 1 + 1) (mc0 inp) 0 0 Ai ci (.slice none 0 0)).toArray 132 (0, 0))) := by
        have e1 : p.take (k + 1) = p.take k ++ [b] := take_snoc' p k b (by rw [List.getElem?_eq_getElem hk, HBB.out])
        refine ⟨by omega, ⟨hbs.below.trans (ho2.below hbs.below.size (fun j hj e => by omega)), (ho2.block _ (Array.getElem?_eq_some_iff.1 hbs.q).1 (by omega)).trans hbs.q, (ho2.block _ (Array.getElem?_eq_some_iff.1 hbs.r).1 (by omega)).trans hbs.r, ⟨_, hm2, fun x => ?_⟩, hbs.ne⟩, ?_, ?_⟩
        · rw [getK_upd, e1, atF_snoc]
          by_cases hx : b.f0 = x
          · simp only [if_pos hx, Option.getD_some]
            rw [List.length_take, Nat.min_eq_left (by omega)]
          · simp only [if_neg hx]; exact hgl x
        · exact (HK.out.2.2.1.only (Only.of_below hbY) (by omega)).only ho2 (by omega)
        · exact (ho2.block _ (by have := hbY.size; omega) (by omega)).trans ((hbY.block _ hl3).trans HK.out.2.2.2)
      clear hY hbY x0 x1 x2 x3 x4 x5 x6 hbs hal hgl hm2 ho2 hl1 hl2 hl3
      go_wp2
      go_roundw
      case rel => exact ⟨k + 1, by go_num, hnext⟩
      case measure => simp [intOf]; omega
    · obtain rfl : k = p.length := by have := HK.out.1; omega
      have hk' : ((p.length : Int) < (p.length : Int)) = False := eq_false (by omega)
      rw [List.take_of_length_le (Nat.le_refl _)] at HK
      clear hk
      obtain ⟨w0, rfl⟩ : ∃ w0 : World, w0 = wr := ⟨_, rfl⟩
      have hM0 := mach_new (B := W.heap.size) inp Ai ci HK.out.2.2.1 (HIN.out.1.below HK.out.2.1.below) HIN.out.2 (W.heap.size + 1 + 1 + 1) HK.out.2.2.2 (by have := (Array.getElem?_eq_some_iff.1 HK.out.2.2.2).1; omega) (by omega) (by omega) (fun g o s e hn => by
        obtain ⟨ad, ea, hc⟩ := HIN.out.1.2.2 hn
        rw [e] at ea
        injection ea with ea
        have := World.block_lt_of_cell? _ _ (hc 0 hn)
        have hb : (ad.add 0).block = ad.block := by unfold Addr.add; split <;> rfl
        rw [hb, ← ea] at this
        simp only at this
        omega)
      have HM0 := Lib.hid hM0
      have HB0 := Lib.hid HK.out.2.1
      clear HK hM0
      generalize hpm : W.heap.size + 1 + 1 + 1 = pm at *
      generalize hmp : W.heap.size + 1 + 1 = mp at *
      have HPM := Lib.hid (And.intro hpm hmp)
      clear hpm hmp
      go_wp2
      clear hk'
      go_loopg [11, 12] (F + 1) (fun g vi vf wr => ∃ (i : Nat) (fr : Int), vi = .int .i64 (i : Int) ∧ vf = .int .i64 fr ∧ Hid (i < p.length ∧ ∃ m al A1 c1 tv, Mach W.heap.size (fun k => k = pm ∨ k = mp) w0 wr pm mp m 0 0 al A1 c1 tv ∧ runB p F g i fr m = R ∧ F + 1 ≤ g + m.steps ∧ m.steps ≤ F ∧ m.trace.length ≤ m.steps))
      case atStart => exact ⟨0, -1, rfl, rfl, HA.out.2.2.2.2.one, mc0 inp, [], Ai, ci, _, HM0.out, HR.out, by simp [mc0], Nat.zero_le _, Nat.le_refl _⟩
      case round =>
        obtain ⟨i, fr, rfl, rfl, HJ⟩ := hrel
        obtain ⟨hip, m, al, A1, c1, tv, hM, hRB, hg, hms, hmt⟩ := HJ.out
        clear HJ
        cases gk with
        | zero => omega
        | succ g =>
          have hbs : Beside W wr A p.length c amp (atF p) := HB0.out.step hM.only (fun k hk => by have := HPM.out; have := HS2.out; rcases hk with hk | hk <;> omega)
          have HBW := Lib.hid hbs.below
          have hcq : wr.cell? ⟨W.heap.size, 0, none⟩ = some (.slice A p.length c) := by rw [cell_of_blk _ _ _ _ _ hbs.q]; rfl
          obtain ⟨ad, A2, c2, A3, c3, e102, x0, x1, x2, x3, x4, x5, x6, _, _, _, hi2⟩ := at_T31 HA.out.1 (i : Int) (by omega) (by omega)
          cases e102
          rw [rd_mem hip] at x0 x1 x2 x3 x4 x5 x6 hi2
          obtain ⟨b, hb⟩ : ∃ b, p[i] = b := ⟨_, rfl⟩
          rw [hb] at x0 x1 x2 x3 x4 x5 x6 hi2
          have hrd : rd_T31 p (i : Int) = b := (rd_mem hip).trans hb
          have hbm : b ∈ p := by rw [← hb]; exact List.getElem_mem hip
          have hb1 := HA.out.2.2.2.1 b hbm
          have hoks := (HA.out.2.2.2.2.blocks b hbm).2.1
          have hl2 : b.f2.length ≤ 4000 := Nat.le_trans (count_mem hbm) HA.out.2.2.2.2.count
          rw [Int.toNat_natCast] at x0 x1 x2 x3 x4 x5 x6
          replace x0 := (HBW.out.cell (World.block_lt_of_cell? _ _ x0)).trans x0
          replace x1 := (HBW.out.cell (World.block_lt_of_cell? _ _ x1)).trans x1
          replace x2 := (HBW.out.cell (World.block_lt_of_cell? _ _ x2)).trans x2
          replace x3 := (HBW.out.cell (World.block_lt_of_cell? _ _ x3)).trans x3
          replace x4 := (HBW.out.cell (World.block_lt_of_cell? _ _ x4)).trans x4
          replace x5 := (HBW.out.cell (World.block_lt_of_cell? _ _ x5)).trans x5
          replace x6 := (HBW.out.cell (World.block_lt_of_cell? _ _ x6)).trans x6
          have p1 : ((i : Int) < (p.length : Int)) = True := eq_true (by omega)
          have p2 : (0 ≤ (i : Int)) = True := eq_true (by omega)
          rw [runB, hrd, hb1] at hRB
          have hent : ({ m with r := enterR m.r fr [] } : Mc) = m := rfl
          rw [hent] at hRB
          have HBB := Lib.hid (And.intro hb1 (And.intro hoks (And.intro hRB (And.intro hg (And.intro hms hmt)))))
          have HI2 := Lib.hid hi2
          have HM := Lib.hid hM
          clear hb hrd hbm hb1 hoks hRB hg hms hmt hi2 hM hbs hent
          go_upto_region 13 with (fail)
          refine wp_named fun Y hY => ?_
          have hbY : Below wr.heap.size wr Y := by
            rw [hY]
            repeat (refine Below.setCell ?_ (Nat.le_refl _) _)
            exact (Below.refl _ _).alloc (Nat.le_refl _) _
          have hq : Y.heap[wr.heap.size]? = some (boxB b A2 c2 A3 c3) := by rw [hY]; exact heap_alloc_new wr _
          have hMY := HM.out.later hbY
          obtain ⟨y0, y1, y2, y3, y4, y5, y6⟩ := box_cells hq
          have HMY := Lib.hid hMY
          have HQ := Lib.hid hq
          clear hY hbY x0 x1 x2 x3 x4 x5 x6 hMY hq HM hcq
          generalize wr.heap.size = q at *
          go_wp2_with fail
          refine (enter2 HMY.out b HBB.out.1 A2 A3 c2 c3 fr).mono ?_
          rintro e W5 ⟨rfl, hM5, ho5⟩
          have hq5 := box_keep HMY.out HQ.out ho5
          have HM5 := Lib.hid (And.intro hM5 hq5)
          clear y0 y1 y2 y3 y4 y5 y6 hM5 ho5 hq5 HMY HQ
          obtain ⟨_, _, z2, _⟩ := box_cells HM5.out.2
          obtain ⟨RI, hRI⟩ : ∃ RI, runI F b.f2 m = RI := ⟨_, rfl⟩
          have HRI := Lib.hid hRI
          clear hRI
          go_wp2
          clear z2
          go_loopw [52] (fun vj wr => ∃ j : Nat, vj = .int .i64 (j : Int) ∧ Hid (j ≤ b.f2.length ∧ wr.heap[q]? = some (boxB b A2 c2 A3 c3) ∧ ∃ m' al A1 c1 tv, Mach W.heap.size (fun k => k = pm ∨ k = mp) w0 wr pm mp m' 0 0 al A1 c1 tv ∧ runI F (b.f2.drop j) m' = RI ∧ m'.steps ≤ F ∧ m.steps ≤ m'.steps ∧ m'.trace.length ≤ m'.steps)) (fun vj _ => b.f2.length - (intOf vj).toNat)
          case atStart => exact ⟨0, rfl, by omega, HM5.out.2, m, al, A1, c1, tv, HM5.out.1, by rw [List.drop_zero]; exact HRI.out, HBB.out.2.2.2.2.1, Nat.le_refl _, HBB.out.2.2.2.2.2⟩
          case round =>
            obtain ⟨j, rfl, HJ⟩ := hrel
            obtain ⟨hjl, hqb, m1, al1, A4, c4, tv1, hM1, hRJ, hsF, hsm, htr⟩ := HJ.out
            clear HJ
            by_cases hj : j < b.f2.length
            · obtain ⟨ad2, e103, z0, z1, z2, z3, z4, z5, z6⟩ := at_T38 HI2.out (j : Int) (by omega) (by omega)
              cases e103
              have hxr : rd_T38 b.f2 (j : Int) = b.f2[j] := by unfold rd_T38; rw [Int.toNat_natCast, List.getD_eq_getElem?_getD, List.getElem?_eq_getElem hj]; rfl
              rw [hxr] at z0 z1 z2 z3 z4 z5 z6
              obtain ⟨x, hx⟩ : ∃ x, b.f2[j] = x := ⟨_, rfl⟩
              rw [hx] at z0 z1 z2 z3 z4 z5 z6
              rw [Int.toNat_natCast] at z0 z1 z2 z3 z4 z5 z6
              rw [List.drop_eq_getElem_cons hj, hx, runI] at hRJ
              have hokx := HBB.out.2.1 x (by rw [← hx]; exact List.getElem_mem hj)
              have hbw : Below W.heap.size W wr := (HB0.out.step hM1.only (fun k hk => by have := HPM.out; have := HS2.out; rcases hk with hk | hk <;> omega)).below
              replace z0 := (hbw.cell (World.block_lt_of_cell? _ _ z0)).trans z0
              replace z1 := (hbw.cell (World.block_lt_of_cell? _ _ z1)).trans z1
              replace z2 := (hbw.cell (World.block_lt_of_cell? _ _ z2)).trans z2
              replace z3 := (hbw.cell (World.block_lt_of_cell? _ _ z3)).trans z3
              replace z4 := (hbw.cell (World.block_lt_of_cell? _ _ z4)).trans z4
              replace z5 := (hbw.cell (World.block_lt_of_cell? _ _ z5)).trans z5
              replace z6 := (hbw.cell (World.block_lt_of_cell? _ _ z6)).trans z6
              have p3 : ((j : Int) < (b.f2.length : Int)) = True := eq_true (by omega)
              have p4 : (0 ≤ (j : Int)) = True := eq_true (by omega)
              have HJ := Lib.hid (And.intro hjl (And.intro hqb (And.intro hM1 (And.intro hRJ (And.intro hsF (And.intro hsm (And.intro htr hokx)))))))
              clear hx hxr hbw hjl hqb hM1 hRJ hsF hsm htr hokx
              go_upto_region 17 with (fail)
              refine wp_named fun Z hZ => ?_
              have hbZ : Below wr.heap.size wr Z := by
                rw [hZ]
                repeat (refine Below.setCell ?_ (Nat.le_refl _) _)
                exact (Below.refl _ _).alloc (Nat.le_refl _) _
              have hiq : Z.heap[wr.heap.size]? = some (.cells #[.int .u8 x.f0, .int .u8 x.f1, .int .i64 x.f2, .int .i64 x.f3, .int .i64 x.f4, .int .i64 x.f5, .int .i64 x.f6] 38 (0, 0)) := by rw [hZ]; exact heap_alloc_new wr _
              have hMZ := HJ.out.2.2.1.later hbZ
              have hqZ := (hbZ.block _ (Array.getElem?_eq_some_iff.1 HJ.out.2.1).1).trans HJ.out.2.1
              have HZ := Lib.hid (And.intro hMZ (And.intro hqZ hiq))
              clear hZ hbZ hiq hMZ hqZ z0 z1 z2 z3 z4 z5 z6
              generalize wr.heap.size = q2 at *
              by_cases hsp : F ≤ m1.steps
              · go_wp2_with fail
                refine (spend_no2 HZ.out.1 F hsp).mono ?_
                rintro e W6 ⟨rfl, hM6, ho6⟩
                clear ho6
                have hbs9 : Beside W W6 (some ad) p.length c amp (atF p) := HB0.out.step hM6.only (fun k hk => by have := HPM.out; have := HS2.out; rcases hk with hk | hk <;> omega)
                obtain ⟨At, ct, etv⟩ := hM6.trv
                subst etv
                have d0 := hM6.c_e
                have d1 := hM6.c_v
                have d2 := hM6.c_t
                have d3 := hM6.c_s
                obtain ⟨r0, r1, r2, r3, f0, f1, f2, f3⟩ := rblk hbs9.r
                have HEND := Lib.hid (And.intro hM6 hbs9)
                clear hM6 hbs9
                go_wp2
                obtain ⟨Y9, hY9, k0, k1, k2, k3, ho9⟩ := fin_out HEND.out.2.r (.int .u8 2) (.int .i64 0) (.slice At m1.trace.length ct) (.int .i64 m1.steps)
                first | rw [hY9] | (simp only [Mc.tick] at hY9; rw [hY9]) | (push_cast at hY9; rw [hY9])
                have hRR : R = ⟨2, 0, m1.trace, m1.steps⟩ := by have h1 := HBB.out.2.2.1; have h2 := HJ.out.2.2.2.1; rw [if_pos hsp] at h2; rw [HRI.out, ← h2] at h1; exact h1.symm
                rw [hRR]
                refine bodyPost_ret (v := ov ⟨2, 0, m1.trace, m1.steps⟩ (.slice At m1.trace.length ct)) (by simp [results, Try.results29, go_sem, k0, k1, k2, k3, ov]) rfl ?_
                exact post_of HEND.out.2 HEND.out.1 (Nat.le_refl _) ho9
              · go_wp2_with fail
                refine (spend_yes2 HZ.out.1 F (by omega) (by omega)).mono ?_
                rintro e W6 ⟨rfl, hM6, ho6⟩
                have hq6 := box_keep HZ.out.1 HZ.out.2.1 ho6
                have hi6 := blk_keep HZ.out.1 HZ.out.2.2 (by decide) (by decide) ho6
                obtain ⟨z0, z1, z2, z3, z4, z5, z6⟩ := ibox_cells hi6
                have H6 := Lib.hid (And.intro hM6 hq6)
                have hr6 := HJ.out.2.2.2.1
                rw [if_neg hsp] at hr6
                clear hM6 ho6 hq6 hi6
                cases hst : stepM x m1.tick with
                | none =>
                  rw [hst] at hr6
                  have HST := Lib.hid (And.intro hst hr6)
                  clear hst hr6
                  go_wp2_with fail
                  refine (step_no2 H6.out.1 x HST.out.1 HJ.out.2.2.2.2.2.2.2.2.2.2.2.2.2 (by have := HJ.out.2.2.2.2.2.2.1; have := HJ.out.2.2.2.2.1; simp only [Mc.tick]; omega)).mono ?_
                  rintro e W7 ⟨rfl, ⟨al7, A7, c7, tv7, hM7⟩, ho7⟩
                  clear z0 z1 z2 z3 z4 z5 z6 ho7
                  have g0 := hM7.c_e
                  have g1 := hM7.frozen 82
                  have hM8 := hM7.set_e 1
                  have HM8 := Lib.hid hM8
                  clear hM7 hM8
                  go_upto_region 21 with (fail)
                  clear g0 g1
                  have hM8 := HM8.out
                  generalize W7.setCell ⟨pm, 82, none⟩ (.int .u8 1) = W8 at *
                  have hbs9 : Beside W W8 (some ad) p.length c amp (atF p) := HB0.out.step hM8.only (fun k hk => by have := HPM.out; have := HS2.out; rcases hk with hk | hk <;> omega)
                  obtain ⟨At, ct, etv⟩ := hM8.trv
                  subst etv
                  have d0 := hM8.c_e
                  have d1 := hM8.c_v
                  have d2 := hM8.c_t
                  have d3 := hM8.c_s
                  obtain ⟨r0, r1, r2, r3, f0, f1, f2, f3⟩ := rblk hbs9.r
                  have HEND := Lib.hid (And.intro hM8 hbs9)
                  clear hM8 hbs9
                  go_wp2
                  obtain ⟨Y9, hY9, k0, k1, k2, k3, ho9⟩ := fin_out HEND.out.2.r (.int .u8 1) (.int .i64 0) (.slice At m1.tick.trace.length ct) (.int .i64 m1.tick.steps)
                  first | rw [hY9] | (simp only [Mc.tick] at hY9; rw [hY9]) | (push_cast at hY9; rw [hY9])
                  have hRR : R = ⟨1, 0, m1.tick.trace, m1.tick.steps⟩ := by have h1 := HBB.out.2.2.1; rw [HRI.out, ← HST.out.2] at h1; exact h1.symm
                  rw [hRR]
                  refine bodyPost_ret (v := ov ⟨1, 0, m1.tick.trace, m1.tick.steps⟩ (.slice At m1.tick.trace.length ct)) (by simp [results, Try.results29, go_sem, k0, k1, k2, k3, ov]) rfl ?_
                  exact post_of HEND.out.2 HEND.out.1 (Nat.le_refl _) ho9
                | some m2 =>
                  rw [hst] at hr6
                  have HST := Lib.hid (And.intro hst hr6)
                  clear hst hr6
                  go_wp2_with fail
                  refine (step_yes2 H6.out.1 x m2 HST.out.1 HJ.out.2.2.2.2.2.2.2.2.2.2.2.2.2 (by have := HJ.out.2.2.2.2.2.2.1; have := HJ.out.2.2.2.2.1; simp only [Mc.tick]; omega)).mono ?_
                  rintro e W7 ⟨rfl, ⟨al7, A7, c7, tv7, hM7⟩, ho7⟩
                  have hq7 := box_keep H6.out.1 H6.out.2 ho7
                  have H7 := Lib.hid (And.intro hM7 hq7)
                  clear z0 z1 z2 z3 z4 z5 z6 ho7 hM7 hq7
                  go_wp2
                  go_roundw
                  case rel =>
                    have hs2 := stepM_steps HST.out.1
                    simp only [Mc.tick] at hs2
                    exact ⟨j + 1, by go_num, by omega, H7.out.2, m2, al7, A7, c7, tv7, H7.out.1, HST.out.2, by omega, by have := HJ.out.2.2.2.2.2.1; omega, by have := HJ.out.2.2.2.2.2.2.1; omega⟩
                  case measure => simp [intOf]; omega
            · obtain rfl : j = b.f2.length := by omega
              have hj' : ((b.f2.length : Int) < (b.f2.length : Int)) = False := eq_false (by omega)
              rw [List.drop_of_length_le (Nat.le_refl _), runI] at hRJ
              have HJ := Lib.hid (And.intro hqb (And.intro hM1 (And.intro hRJ (And.intro hsF (And.intro hsm htr)))))
              clear hjl hqb hM1 hRJ hsF hsm htr hj
              by_cases hsp : F ≤ m1.steps
              · go_wp2_with fail
                refine (spend_no2 HJ.out.2.1 F hsp).mono ?_
                rintro e W6 ⟨rfl, hM6, ho6⟩
                clear ho6
                have hbs9 : Beside W W6 (some ad) p.length c amp (atF p) := HB0.out.step hM6.only (fun k hk => by have := HPM.out; have := HS2.out; rcases hk with hk | hk <;> omega)
                obtain ⟨At, ct, etv⟩ := hM6.trv
                subst etv
                have d0 := hM6.c_e
                have d1 := hM6.c_v
                have d2 := hM6.c_t
                have d3 := hM6.c_s
                obtain ⟨r0, r1, r2, r3, f0, f1, f2, f3⟩ := rblk hbs9.r
                have HEND := Lib.hid (And.intro hM6 hbs9)
                clear hM6 hbs9
                go_wp2
                obtain ⟨Y9, hY9, k0, k1, k2, k3, ho9⟩ := fin_out HEND.out.2.r (.int .u8 2) (.int .i64 0) (.slice At m1.trace.length ct) (.int .i64 m1.steps)
                first | rw [hY9] | (simp only [Mc.tick] at hY9; rw [hY9]) | (push_cast at hY9; rw [hY9])
                have hRR : R = ⟨2, 0, m1.trace, m1.steps⟩ := by have h1 := HBB.out.2.2.1; rw [HRI.out, ← HJ.out.2.2.1] at h1; simp only at h1; rw [if_pos hsp] at h1; exact h1.symm
                rw [hRR]
                refine bodyPost_ret (v := ov ⟨2, 0, m1.trace, m1.steps⟩ (.slice At m1.trace.length ct)) (by simp [results, Try.results29, go_sem, k0, k1, k2, k3, ov]) rfl ?_
                exact post_of HEND.out.2 HEND.out.1 (Nat.le_refl _) ho9
              · go_wp2_with fail
                refine (spend_yes2 HJ.out.2.1 F (by omega) (by omega)).mono ?_
                rintro e W6 ⟨rfl, hM6, ho6⟩
                have hq6 := box_keep HJ.out.2.1 HJ.out.1 ho6
                obtain ⟨z0, z1, z2, z3, z4, z5, z6⟩ := box_cells hq6
                have hbs6 : Beside W W6 (some ad) p.length c amp (atF p) := HB0.out.step hM6.only (fun k hk => by have := HPM.out; have := HS2.out; rcases hk with hk | hk <;> omega)
                have hr6 := HBB.out.2.2.1
                rw [HRI.out, ← HJ.out.2.2.1] at hr6
                simp only at hr6
                rw [if_neg hsp] at hr6
                have H6 := Lib.hid (And.intro hM6 (And.intro hbs6 hr6))
                clear hM6 ho6 hq6 hbs6 hr6
                by_cases e0 : b.f3.f0 = 0
                · have hR0 := H6.out.2.2
                  rw [if_pos e0] at hR0
                  have HR0 := Lib.hid hR0
                  rw [e0] at z3
                  have hlk := H6.out.2.1.look b.f3.f2
                  clear e0 hR0
                  go_wp2
                  go_roundg g
                  case measure => omega
                  case rel => exact ⟨atF p b.f3.f2, b.f0, rfl, rfl, atF_lt p HA.out.2.2.2.2.one _, m1.tick, _, _, _, _, H6.out.1, HR0.out, by have := HBB.out.2.2.2.1; have := HJ.out.2.2.2.2.1; simp only [Mc.tick]; omega, by simp only [Mc.tick]; omega, by have := HJ.out.2.2.2.2.2; simp only [Mc.tick]; omega⟩
                · by_cases e1 : b.f3.f0 = 1
                  · have hR0 := H6.out.2.2
                    rw [if_neg e0, if_pos e1] at hR0
                    have HR0 := Lib.hid hR0
                    rw [e1] at z3
                    have hlk := H6.out.2.1.look b.f3.f3
                    have g0 := H6.out.1.c_r
                    have l1 : ∀ n, (Instr.lookup 128 (.map (some mp)) (.int .i64 b.f3.f1) false).run Try.prog (W6.drewN n) = .ok (.int .i64 (m1.r b.f3.f1)) (W6.drewN n) := fun n => (H6.out.1.drew n).look b.f3.f1
                    clear e0 e1 hR0
                    go_upto_region 33 with (fail)
                    go_quiet (fail)
                    obtain ⟨W7, hW7⟩ : ∃ W7, W6.drewN nq = W7 := ⟨_, rfl⟩
                    have hM7 : Mach W.heap.size (fun k => k = pm ∨ k = mp) w0 W7 pm mp m1.tick 0 0 al1 A4 c4 tv1 := hW7 ▸ H6.out.1.drew nq
                    have hbs7 : Beside W W7 (some ad) p.length c amp (atF p) := HB0.out.step hM7.only (fun k hk => by have := HPM.out; have := HS2.out; rcases hk with hk | hk <;> omega)
                    have hlk2 := hbs7.look b.f3.f2
                    have z5' : W7.cell? ⟨q, 5, none⟩ = some (.int .i64 b.f3.f2) := by rw [← hW7]; exact z5
                    rw [hW7]
                    have HM7 := Lib.hid hM7
                    clear hM7 hbs7 hW7 hlk l1 g0 z0 z1 z2 z3 z4 z5 z6
                    by_cases hz : m1.r b.f3.f1 = 0
                    · have hzb : (m1.r b.f3.f1 != 0) = false := by rw [hz]; rfl
                      have HZ := Lib.hid hz
                      have hR1 := HR0.out
                      rw [if_neg (by simp [hz])] at hR1
                      have HR1 := Lib.hid hR1
                      clear hz hR1
                      go_wp2
                      go_roundg g
                      case measure => omega
                      case rel => exact ⟨atF p b.f3.f3, b.f0, rfl, rfl, atF_lt p HA.out.2.2.2.2.one _, m1.tick, _, _, _, _, HM7.out, HR1.out, by have := HBB.out.2.2.2.1; have := HJ.out.2.2.2.2.1; simp only [Mc.tick]; omega, by simp only [Mc.tick]; omega, by have := HJ.out.2.2.2.2.2; simp only [Mc.tick]; omega⟩
                    · have hzb : (m1.r b.f3.f1 != 0) = true := by rw [bne_iff_ne]; exact hz
                      have hR1 := HR0.out
                      rw [if_pos (by simpa using hz)] at hR1
                      have HR1 := Lib.hid hR1
                      clear hz hR1
                      go_wp2
                      go_roundg g
                      case measure => omega
                      case rel => exact ⟨atF p b.f3.f2, b.f0, rfl, rfl, atF_lt p HA.out.2.2.2.2.one _, m1.tick, _, _, _, _, HM7.out, HR1.out, by have := HBB.out.2.2.2.1; have := HJ.out.2.2.2.2.1; simp only [Mc.tick]; omega, by simp only [Mc.tick]; omega, by have := HJ.out.2.2.2.2.2; simp only [Mc.tick]; omega⟩
                  · by_cases e2 : b.f3.f0 = 2
                    · have hR0 := H6.out.2.2
                      rw [if_neg e0, if_neg e1, if_pos e2] at hR0
                      have HR0 := Lib.hid hR0
                      rw [e2] at z3
                      have g0 := H6.out.1.c_r
                      have l1 : (Instr.lookup 128 (.map (some mp)) (.int .i64 b.f3.f1) false).run Try.prog (W6.drewN 1) = .ok (.int .i64 (m1.r b.f3.f1)) (W6.drewN 1) := (H6.out.1.drew 1).look b.f3.f1
                      change (Instr.lookup _ _ _ _).run Try.prog W6.drew = .ok _ W6.drew at l1
                      have g1 := (H6.out.1.drew 1).c_v
                      have g2 := (H6.out.1.drew 1).frozen 83
                      have HM8 := Lib.hid ((H6.out.1.drew 1).set_v (m1.r b.f3.f1))
                      clear e0 e1 e2 hR0
                      go_upto_region 36 with (fail)
                      go_still_tail 12, (by kernel_rfl)
                      change wpList _ _ _ _ _ (W6.drewN 1)
                      generalize W6.drewN 1 = W7 at *
                      go_upto_region 37 with (fail)
                      clear g0 g1 g2
                      have hM8 := HM8.out
                      generalize W7.setCell ⟨pm, 83, none⟩ (.int .i64 (m1.r b.f3.f1)) = W8 at *
                      have hbs9 : Beside W W8 (some ad) p.length c amp (atF p) := HB0.out.step hM8.only (fun k hk => by have := HPM.out; have := HS2.out; rcases hk with hk | hk <;> omega)
                      obtain ⟨At, ct, etv⟩ := hM8.trv
                      subst etv
                      have d0 := hM8.c_e
                      have d1 := hM8.c_v
                      have d2 := hM8.c_t
                      have d3 := hM8.c_s
                      obtain ⟨r0, r1, r2, r3, f0, f1, f2, f3⟩ := rblk hbs9.r
                      have HEND := Lib.hid (And.intro hM8 hbs9)
                      clear hM8 hbs9
                      go_wp2
                      obtain ⟨Y9, hY9, k0, k1, k2, k3, ho9⟩ := fin_out HEND.out.2.r (.int .u8 0) (.int .i64 (m1.r b.f3.f1)) (.slice At m1.tick.trace.length ct) (.int .i64 m1.tick.steps)
                      first | rw [hY9] | (simp only [Mc.tick] at hY9; rw [hY9]) | (push_cast at hY9; rw [hY9])
                      have hRR : R = ⟨0, m1.r b.f3.f1, m1.tick.trace, m1.tick.steps⟩ := HR0.out.symm
                      rw [hRR]
                      refine bodyPost_ret (v := ov ⟨0, m1.r b.f3.f1, m1.tick.trace, m1.tick.steps⟩ (.slice At m1.tick.trace.length ct)) (by simp [results, Try.results29, go_sem, k0, k1, k2, k3, ov]) rfl ?_
                      exact post_of HEND.out.2 HEND.out.1 (Nat.le_refl _) ho9
                    · have hR0 := H6.out.2.2
                      rw [if_neg e0, if_neg e1, if_neg e2] at hR0
                      have HR0 := Lib.hid hR0
                      have t0 : (b.f3.f0 == 0) = false := beq_eq_false_iff_ne.2 e0
                      have t1 : (b.f3.f0 == 1) = false := beq_eq_false_iff_ne.2 e1
                      have t2 : (b.f3.f0 == 2) = false := beq_eq_false_iff_ne.2 e2
                      have g0 := H6.out.1.c_e
                      have g1 := H6.out.1.frozen 82
                      have HM8 := Lib.hid (H6.out.1.set_e 1)
                      clear e0 e1 e2 hR0
                      go_upto_region 28 with (fail)
                      clear g0 g1
                      have hM8 := HM8.out
                      generalize W6.setCell ⟨pm, 82, none⟩ (.int .u8 1) = W8 at *
                      have hbs9 : Beside W W8 (some ad) p.length c amp (atF p) := HB0.out.step hM8.only (fun k hk => by have := HPM.out; have := HS2.out; rcases hk with hk | hk <;> omega)
                      obtain ⟨At, ct, etv⟩ := hM8.trv
                      subst etv
                      have d0 := hM8.c_e
                      have d1 := hM8.c_v
                      have d2 := hM8.c_t
                      have d3 := hM8.c_s
                      obtain ⟨r0, r1, r2, r3, f0, f1, f2, f3⟩ := rblk hbs9.r
                      have HEND := Lib.hid (And.intro hM8 hbs9)
                      clear hM8 hbs9
                      go_wp2
                      obtain ⟨Y9, hY9, k0, k1, k2, k3, ho9⟩ := fin_out HEND.out.2.r (.int .u8 1) (.int .i64 0) (.slice At m1.tick.trace.length ct) (.int .i64 m1.tick.steps)
                      first | rw [hY9] | (simp only [Mc.tick] at hY9; rw [hY9]) | (push_cast at hY9; rw [hY9])
                      have hRR : R = ⟨1, 0, m1.tick.trace, m1.tick.steps⟩ := HR0.out.symm
                      rw [hRR]
                      refine bodyPost_ret (v := ov ⟨1, 0, m1.tick.trace, m1.tick.steps⟩ (.slice At m1.tick.trace.length ct)) (by simp [results, Try.results29, go_sem, k0, k1, k2, k3, ov]) rfl ?_
                      exact post_of HEND.out.2 HEND.out.1 (Nat.le_refl _) ho9
/-- run.Run, of any program without phis. -/
theorem run_calls (p : List S31) (A Ai : Option Addr) (c ci : Nat) (inp : List Int) (F : Nat) (W : World) (hF : F ≤ 1048576) (hA : Kd.C k31 W A p.length p) (hc : p.length ≤ c) (hm : countP p ≤ 1099511627776) (hp : ∀ b ∈ p, b.f1 = []) (hin : ReadsInt W .i64 Ai inp.length inp) (hci : inp.length ≤ ci) :
    Calls Try.prog 29 #[.agg #[.slice A p.length c], .slice Ai inp.length ci, .int .i64 F] W fun e W' => RunPost (runP p inp F) W e W' := by
  unfold runP
  by_cases hok : okP p
  · rw [if_pos hok, Nat.min_eq_left hF]
    exact run_good p A Ai c ci inp F W (by omega) hA hc hm hp hin hci hok
  · rw [if_neg hok]
    exact run_bad p A Ai c ci inp F W (by omega) hA hc hm hp hok
end Go.Proofs.Ytffnkbicbfjnpaa
