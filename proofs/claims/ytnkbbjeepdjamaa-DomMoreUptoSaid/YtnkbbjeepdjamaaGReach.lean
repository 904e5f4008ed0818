/- graph.Reached: the places that are reached from the first. Conditions: few places. -/
import Derived.Test.YtnkbbjeepdjamaaGWalkedR
namespace Go.Proofs.Ytnkbbjeepdjamaa
open Go.RowKit
/-- Rows of places. -/
structure Few (b : List (List Nat)) : Prop where
  n : b.length ≤ 1048575
  lt : ∀ (i : Nat) (l : List Nat), b[i]? = some l → ∀ x ∈ l, x < b.length
def nb (b : List (List Nat)) : Nat → List Nat := fun i => b.getD i []
theorem falses_seen {w : World} {q n : Nat} (h : w.heap[q]? = some (falses n)) : Seen w q (dst0 n).seen := h
set_option maxRecDepth 100000 in
set_option maxHeartbeats 4000000 in
theorem reached_calls {w : World} {base : Nat} {gv : Value} {b a : List (List Nat)} {S : Nat → Prop} (h : Gr w base gv b a S) (hf : Few b) :
    Calls Try.prog 25 #[gv] w fun e w' => ∃ q, e = .returned (.slice (some ⟨q, 0, none⟩) b.length b.length) ∧ Seen w' q (dfs0 (nb b) b.length).seen ∧ w.heap.size ≤ q ∧ Below w.heap.size w w' := by
  have hmk := mk_falses b.length (by have := hf.n; omega)
  obtain ⟨q1, p1, vs, us, rfl, h1, h2, h3, h4, h5⟩ := h.ex
  have hge : base ≤ w.heap.size := by have := h1.lt (.inl rfl : MatB q1 vs q1); omega
  have H := Lib.hid h
  have HGE := Lib.hid hge
  clear h h1 h2 h3 h4 h5 hge
  go_enter Try.func25, Try.ntmps25
  go_wp2_with fail
  refine (len_calls q1 b.length p1 b.length b.length b.length _).mono ?_
  rintro e w2 ⟨rfl, hb⟩
  generalize hX : World.alloc w _ = X at *
  obtain ⟨hx, hbx, hz⟩ := boxed hX rfl
  have x0 : w2.cell? ⟨w.heap.size, 0, none⟩ = some (.slice (some ⟨q1, 0, none⟩) b.length b.length) := (cell_of_blk _ _ _ _ _ ((hb.block _ (by omega)).trans hx) 0)
  have x1 : w2.cell? ⟨w.heap.size, 1, none⟩ = some (.slice (some ⟨p1, 0, none⟩) b.length b.length) := (cell_of_blk _ _ _ _ _ ((hb.block _ (by omega)).trans hx) 1)
  have hs2 : w.heap.size < w2.heap.size := World.block_lt_of_cell? w2 _ x0
  have HB2 := Lib.hid (below_two hbx hb)
  have HX2 := Lib.hid ((hb.block w.heap.size (by omega)).trans hx)
  clear hb hX hx hbx hz
  go_wp2_with fail
  refine (len_calls q1 b.length p1 b.length b.length b.length _).mono ?_
  rintro e w3 ⟨rfl, hb⟩
  generalize hY : World.alloc w2 _ = Y at *
  obtain ⟨hy, hby, hz⟩ := boxed hY rfl
  have hby3 := below_two hby hb
  have y0 := (hby3.cell (p := ⟨w.heap.size, 0, none⟩) hs2).trans x0
  have y1 := (hby3.cell (p := ⟨w.heap.size, 1, none⟩) hs2).trans x1
  have hse : Seen w3 w2.heap.size (dst0 b.length).seen := falses_seen ((hb.block _ (by omega)).trans hy)
  have HS := Lib.hid (And.intro hse (below_two HB2.out hby3))
  have HZ := Lib.hid (And.intro hs2 hb.size)
  clear hb hY hy hby hz hby3 hse x0 x1 hs2
  by_cases hn : b.length = 0
  · have hd : decide (0 < b.length) = false := decide_eq_false (by omega)
    have hd2 : ((0 : Int) < (b.length : Int)) = False := eq_false (by omega)
    have HN := Lib.hid hn
    clear hn
    have hbel := HS.out.2
    go_wp2_with fail
    go_ret
    exact ⟨_, rfl, by unfold dfs0; rw [if_pos HN.out]; exact HS.out.1, Nat.le_of_lt HZ.out.1, hbel⟩
  · have hd : decide (0 < b.length) = true := decide_eq_true (by omega)
    have hd2 : 0 < b.length := by omega
    have HN := Lib.hid hn
    have hws : WR.WS w3 base (.agg #[.slice (some ⟨q1, 0, none⟩) b.length b.length, .slice (some ⟨p1, 0, none⟩) b.length b.length]) b a S w2.heap.size 0 (dst0 b.length) (fun _ => False) := by
      refine ⟨H.out.later HS.out.2, HS.out.1, by simp [dst0], ⟨fun _ h => h, rfl, rfl, rfl, rfl⟩, fun e => ?_, fun e => e, fun _ _ e => e, ?_, by simp [dst0]⟩
      · have := (H.out.lt e).1; have := HZ.out.1; omega
      · have := HGE.out; have := HZ.out.1; omega
    have HWS := Lib.hid hws
    clear hws hn
    go_wp2_with fail
    refine (WR.walk_ok (B := 0) hf.n hf.lt b.length 0 (dst0 b.length) w3 (fun _ => False) HWS.out (by rw [dst0_seen]; exact decide_eq_false (by have := HN.out; omega)) (by simp [dst0, unseen_replicate]) (by simp [dst0, unseen_replicate]) (by simp [dst0, unseen_replicate])).mono ?_
    rintro e w5 ⟨rfl, S2, hw5, hst⟩
    have hbel : Below w.heap.size w w5 := HS.out.2.trans (hst.1.below HS.out.2.size (fun k hk e => by
      rcases e with e | e
      · have := HZ.out.1; omega
      · exact e))
    have HR := Lib.hid hw5.seen
    clear hw5 hst
    go_wp2_with fail
    go_ret
    exact ⟨_, rfl, by unfold dfs0; rw [if_neg HN.out]; exact HR.out, Nat.le_of_lt HZ.out.1, hbel⟩
end Go.Proofs.Ytnkbbjeepdjamaa
