/- refinerylaw13.RunInputs: the walk. Conditions: the numbers are of their kinds. -/
import Derived.Test.YtffnkbicbfjnpaaRFuelW
import Derived.Test.YtffnkbicbfjnpaaRInP
import Derived.Test.YtffnkbicbfjnpaaRLit
import Derived.Outline
import Derived.LoopTactic
namespace Go.Proofs.Ytffnkbicbfjnpaa
open Go.RowKit Go.Proofs.Ytffnkbicbfjnpaa.PRunFuel
open Go.Proofs.YtffnkbicbfjnpaaW.PrintWords (ReadsInt rd Kd encs own_reads_of_le)
/-- The program's two blocks, and their cells. -/
def inB (a k : Int) (g : Nat) : List (S31 × List Value) := [((⟨0, [], [⟨0, 0, 0, 0, 0, a, 0⟩], ⟨0, 0, 1, 0⟩⟩ : S31), cells31 ⟨0, [], [⟨0, 0, 0, 0, 0, a, 0⟩], ⟨0, 0, 1, 0⟩⟩ (some ⟨g, 0, none⟩) 1), ((⟨1, [], inI k, ⟨0, 0, 1, 0⟩⟩ : S31), cells31 ⟨1, [], inI k, ⟨0, 0, 1, 0⟩⟩ (some ⟨g + 1, 0, none⟩) 7)]
set_option linter.unusedSimpArgs false in
set_option maxRecDepth 100000 in
set_option maxHeartbeats 4000000 in
theorem inputs_calls (Ai : Option Addr) (ci : Nat) (inp : List Int) (x y : Int) (W : World) (hin : ReadsInt W .i64 Ai inp.length inp) (hci : inp.length ≤ ci) (hx : 0 ≤ x ∧ x ≤ 255) (hy : 0 ≤ y ∧ y ≤ 255) :
    Calls Try.prog 4 #[.slice Ai inp.length ci, .int .u8 x, .int .u8 y] W fun e W' => e = .returned (.bool true) ∧ Below W.heap.size W W' := by
  have HA := Lib.hid (And.intro hin hci)
  clear hin hci
  go_enter Try.func4, Try.ntmps4
  go_wp2_with fail
  refine (awake_calls W).mono ?_
  rintro e W1 ⟨rfl, hb⟩
  have H1 := Lib.hid hb
  clear hb
  by_cases h50 : inp.length ≤ 50
  · have h50b : decide ((50 : Int) < (inp.length : Int)) = false := decide_eq_false (by omega)
    go_wp2_with fail
    obtain ⟨k, hk⟩ : ∃ k : Int, y % 16 = k := ⟨_, rfl⟩
    obtain ⟨a, ha⟩ : ∃ a : Int, x % 64 = a := ⟨_, rfl⟩
    have hk0 : 0 ≤ k ∧ k < 16 := by omega
    have ha0 : 0 ≤ a ∧ a < 64 := by omega
    rw [hk, ha]
    clear hk ha hx hy
    generalize h1 : World.alloc W1 _ = X1
    have b1 : X1.heap[W1.heap.size]? = some (.cells ((([⟨0, 0, 0, 0, 0, a, 0⟩] : List S38).flatMap cells38).toArray) 38 (0, 0)) := h1 ▸ heap_alloc_new W1 _
    have z1 : X1.heap.size = W1.heap.size + 1 := by rw [← h1]; simp
    have l1 : Below W1.heap.size W1 X1 := h1 ▸ (Below.refl _ _).alloc (Nat.le_refl _) _
    clear h1
    generalize h2 : World.alloc X1 _ = X2
    have b2 : X2.heap[W1.heap.size + 1]? = some (.cells (((inI k).flatMap cells38).toArray) 38 (0, 0)) := by rw [← z1, ← h2]; exact heap_alloc_new X1 _
    have z2 : X2.heap.size = W1.heap.size + 2 := by rw [← h2]; simp [z1]
    have l2 : Below X1.heap.size X1 X2 := h2 ▸ (Below.refl _ _).alloc (Nat.le_refl _) _
    clear h2
    generalize h3 : World.alloc X2 _ = X3
    have b3 : X3.heap[W1.heap.size + 1 + 1]? = some (.cells ((inB a k W1.heap.size).flatMap (fun p => p.2)).toArray 31 (0, 0)) := by rw [show W1.heap.size + 1 + 1 = X2.heap.size by omega, ← h3]; exact heap_alloc_new X2 _
    have z3 : X3.heap.size = W1.heap.size + 3 := by rw [← h3]; simp [z2]
    have l3 : Below X2.heap.size X2 X3 := h3 ▸ (Below.refl _ _).alloc (Nat.le_refl _) _
    clear h3
    generalize h4 : World.alloc X3 _ = X4
    have l4 : Below X3.heap.size X3 X4 := h4 ▸ (Below.refl _ _).alloc (Nat.le_refl _) _
    clear h4
    have i1 : k38.C X3 (some ⟨W1.heap.size, 0, none⟩) 1 [⟨0, 0, 0, 0, 0, a, 0⟩] := Kd.C_below (C38_lit _ _ b1 rfl (by simp)) (below_two l2 l3)
    have i2 : k38.C X3 (some ⟨W1.heap.size + 1, 0, none⟩) (inI k).length (inI k) := Kd.C_below (C38_lit _ _ b2 rfl (by simp [inI])) l3
    have i3 := C_lit (d := k31) _ _ b3 rfl (fun p hp => by
      simp only [inB, List.mem_cons, List.not_mem_nil, or_false] at hp
      rcases hp with rfl | rfl
      · exact K31_lit _ rfl i1 (Nat.le_refl _)
      · exact K31_lit _ rfl i2 (Nat.le_refl _)) (by simp [inB])
    have hp : PrgR (inP a k) X4 (.agg #[.slice (some ⟨W1.heap.size + 1 + 1, 0, none⟩) 2 2]) := ⟨_, 2, rfl, by simp [inP], Kd.C_below i3 l4⟩
    have hl := below_two l1 (below_two l2 (below_two l3 l4))
    have HX := Lib.hid (And.intro (below_two H1.out hl) (And.intro (HA.out.1.below (below_two H1.out hl)) HA.out.2))
    clear b1 b2 b3 z1 z2 z3 l1 l2 l3 l4 i1 i2 i3 hl HA
    refine (runR_calls (inP a k) _ Ai ci inp 1000 X4 (by decide) hp (by simp [inP, inI, countP]) (fun b hb => by simp only [inP, List.mem_cons, List.not_mem_nil, or_false] at hb; rcases hb with rfl | rfl <;> rfl) HX.out.2.1 HX.out.2.2).mono ?_
    rintro e W2 ⟨v, rfl, ⟨A, c, rfl, hc, hC⟩, hb2⟩
    rw [inP_run a k ha0 hk0 inp h50] at hc hC ⊢
    dsimp only [ov] at hc hC ⊢
    rw [twice_len] at hc hC ⊢
    have HX2 := Lib.hid (And.intro (below_two HX.out.1 hb2) (And.intro (HX.out.2.1.below hb2) (And.intro HX.out.2.2 (And.intro hc hC))))
    clear hb2 hp HX hc hC h50b
    go_wp2_with fail
    generalize hY : World.alloc W2 _ = Y
    have hbY : Below W2.heap.size W2 Y := hY ▸ (Below.refl _ _).alloc (Nat.le_refl _) _
    have hbox : Y.heap[W2.heap.size]? = some (.cells #[.int .u8 1, .int .i64 0, .slice A (2 * inp.length) c, .int .i64 (2 + 8 * (inp.length : Int) + 1)] 60 (0, 0)) := hY ▸ heap_alloc_new W2 _
    have hbel := below_two HX2.out.1 hbY
    have x2 := cell_of_blk _ _ _ _ _ hbox 2
    have HY := Lib.hid (And.intro (HX2.out.2.1.below hbY) (Kd.C_below HX2.out.2.2.2.2 hbY))
    clear hY hbY hbox HX2
    simp at x2
    go_loop [68] (fun i => ∃ j : Nat, i = .int .i64 (j : Int) ∧ Hid (j ≤ inp.length)) (fun i => inp.length - (intOf i).toNat)
    case atStart => exact ⟨0, rfl, Lib.hid (Nat.zero_le _)⟩
    case round =>
      obtain ⟨j, rfl, HI⟩ := hrel
      by_cases hj : j < inp.length
      · obtain ⟨ad, rfl, hcell⟩ := HY.out.1.at_ (j : Int) (by omega) (by omega)
        obtain ⟨bd, rfl, hc1⟩ := Go.Proofs.YtffnkbicbfjnpaaW.PrintWords.Kd.at_int HY.out.2 (2 * (j : Int)) (by omega) (by omega)
        obtain ⟨bd', hbd, hc2⟩ := Go.Proofs.YtffnkbicbfjnpaaW.PrintWords.Kd.at_int HY.out.2 (2 * (j : Int) + 1) (by omega) (by omega)
        obtain rfl : bd = bd' := Option.some.inj hbd
        obtain ⟨y, hy⟩ : ∃ y, inp[j]? = some y := ⟨_, List.getElem?_eq_getElem hj⟩
        have ht := twice_at inp j y hy
        have e0 : rd inp (j : Int) = y := by unfold rd; rw [Int.toNat_natCast, List.getD_eq_getElem?_getD, hy]; rfl
        have e1 : rd (twice inp) (2 * (j : Int)) = y := by unfold rd; rw [show (2 * (j : Int)).toNat = 2 * j by omega, List.getD_eq_getElem?_getD, ht.1]; rfl
        have e2 : rd (twice inp) (2 * (j : Int) + 1) = y := by unfold rd; rw [show (2 * (j : Int) + 1).toNat = 2 * j + 1 by omega, List.getD_eq_getElem?_getD, ht.2]; rfl
        rw [e0, Int.toNat_natCast] at hcell
        rw [e1, show (2 * (j : Int)).toNat = 2 * j by omega] at hc1
        rw [e2, show bd.add (2 * (j : Int) + 1).toNat = ⟨bd.block, bd.off + (2 * j + 1), none⟩ by rw [show (2 * (j : Int) + 1).toNat = 2 * j + 1 by omega]; simp [Addr.add]] at hc2
        have p1 : ((j : Int) < (inp.length : Int)) = True := eq_true (by omega)
        clear hbd hy ht e0 e1 e2
        go_wp2
        go_round
        case rel => exact ⟨j + 1, by go_num, Lib.hid (by omega)⟩
        case measure => simp [intOf]; omega
      · have p1 : ((j : Int) < (inp.length : Int)) = False := eq_false (by omega)
        go_wp2
        go_ret
        exact ⟨rfl, hbel⟩
  · have h50b : decide ((50 : Int) < (inp.length : Int)) = true := decide_eq_true (by omega)
    have hbel := H1.out
    go_wp2_with fail
    go_ret
    exact ⟨rfl, hbel⟩
end Go.Proofs.Ytffnkbicbfjnpaa
