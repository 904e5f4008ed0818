/- graph.New: so many places, none behind another one. Conditions: few places. -/
import Derived.Test.YtnkbbjeepdjamaaM2
namespace Go.Proofs.Ytnkbbjeepdjamaa
open Go.RowKit
def nilRows (n : Nat) : Obj := .cells (List.replicate n (Value.slice none 0 0)).toArray 31
theorem mk_rows (n : Nat) (hn : n ≤ 1048576) (w : World) : (Instr.makeSlice 26 (.int .i64 (n : Int)) (.int .i64 (n : Int))).run Try.prog w = .ok (.slice (some ⟨w.heap.size, 0, none⟩) n n) (w.alloc (nilRows n)) := by
  obtain ⟨i0, hi0, hz0, hz1, hz2⟩ := info_parts infoS
  have h := run_make (P := Try.prog) w 26 31 i0 _ Try.underlying26 hi0 hz0 .i64 .i64 n n (by omega) (Int.le_refl _) (by rw [hz2]; omega) (by omega)
  rw [h, hz1, Int.toNat_natCast, Nat.mul_one]
  unfold nilRows
  have e : (madeCells (Value.cells (.slice none 0 0)) n) = (List.replicate n (Value.slice none 0 0)).toArray := by
    apply Array.toList_inj.1
    rw [show Value.cells (.slice none 0 0) = #[.slice none 0 0] from rfl, toList_madeCells_one]
  rw [e]
theorem gr_new {w' : World} {base n q p : Nat} (hq : w'.heap[q]? = some (nilRows n)) (hp : w'.heap[p]? = some (nilRows n)) (hne : q ≠ p) (h1 : base ≤ q) (h2 : base ≤ p) :
    ∃ S, Gr w' base (.agg #[.slice (some ⟨q, 0, none⟩) n n, .slice (some ⟨p, 0, none⟩) n n]) (List.replicate n []) (List.replicate n []) S :=
  ⟨fun g => MatB q (List.replicate n (.slice none 0 0)) g ∨ MatB p (List.replicate n (.slice none 0 0)) g, ⟨q, p, _, _, by simp, Mat.new hq h1, Mat.new hp h2, rfl, fun g hg hg' => hne ((matB_new hg).symm.trans (matB_new hg')), fun _ => Iff.rfl⟩⟩
/-- What New leaves. -/
def NewPost (n : Nat) (w : World) (e : Ending) (w' : World) : Prop := ∃ gv, e = .returned gv ∧ (∃ S, Gr w' w.heap.size gv (List.replicate n []) (List.replicate n []) S) ∧ Below w.heap.size w w'
theorem NewPost.mk' {n q p : Nat} {w w' : World} (hq : w'.heap[q]? = some (nilRows n)) (hp : w'.heap[p]? = some (nilRows n)) (hne : q ≠ p) (h1 : w.heap.size ≤ q) (h2 : w.heap.size ≤ p) (hb : Below w.heap.size w w') :
    NewPost n w (.returned (.agg #[.slice (some ⟨q, 0, none⟩) n n, .slice (some ⟨p, 0, none⟩) n n])) w' := ⟨_, rfl, gr_new hq hp hne h1 h2, hb⟩
theorem heap_alloc_new' (w : World) (o : Obj) : (w.alloc o).heap[w.heap.size]? = some o := Array.getElem?_push_size
theorem alloc3 (w : World) (a b c : Obj) : (((w.alloc a).alloc b).alloc c).drew.heap[w.heap.size + 1]? = some b ∧ (((w.alloc a).alloc b).alloc c).drew.heap[w.heap.size + 1 + 1]? = some c ∧ Below w.heap.size w (((w.alloc a).alloc b).alloc c).drew := by
  have h1 : ((w.alloc a).alloc b).heap[w.heap.size + 1]? = some b := by have := heap_alloc_new' (w.alloc a) b; rwa [World.size_alloc] at this
  have h2 : (((w.alloc a).alloc b).alloc c).heap[w.heap.size + 1 + 1]? = some c := by have := heap_alloc_new' ((w.alloc a).alloc b) c; rwa [World.size_alloc, World.size_alloc] at this
  refine ⟨(Below.heap_alloc ((w.alloc a).alloc b) c _ (by simp)).trans h1, h2, ?_⟩
  exact ((((Below.refl _ _).alloc (Nat.le_refl _) _).alloc (by simp) _).alloc (by simp; omega) _).drew
set_option maxHeartbeats 1000000 in
theorem new_calls (n : Nat) (hn : n ≤ 1048576) (w : World) : Calls Try.prog 26 #[.int .i64 (n : Int)] w (NewPost n w) := by
  have hmk := mk_rows n hn
  go_enter Try.func26, Try.ntmps26
  go_wp2
  go_region
  · go_wp2
    have h := alloc3 w (.cells #[.slice (some ⟨w.heap.size + 1, 0, none⟩) n n, .slice (some ⟨w.heap.size + 1 + 1, 0, none⟩) n n] 28) (nilRows n) (nilRows n)
    exact bodyPost_ret (v := .agg #[.slice (some ⟨w.heap.size + 1, 0, none⟩) n n, .slice (some ⟨w.heap.size + 1 + 1, 0, none⟩) n n]) (by simp [results, Try.results26, go_sem]) rfl (NewPost.mk' h.1 h.2.1 (by omega) (by omega) (by omega) h.2.2)
  · go_wp2
    have h := alloc3 w (.cells #[.slice (some ⟨w.heap.size + 1 + 1, 0, none⟩) n n, .slice (some ⟨w.heap.size + 1, 0, none⟩) n n] 28) (nilRows n) (nilRows n)
    exact bodyPost_ret (v := .agg #[.slice (some ⟨w.heap.size + 1 + 1, 0, none⟩) n n, .slice (some ⟨w.heap.size + 1, 0, none⟩) n n]) (by simp [results, Try.results26, go_sem]) rfl (NewPost.mk' h.2.1 h.1 (by omega) (by omega) (by omega) h.2.2)
set_option maxHeartbeats 1000000 in
theorem new_neg (a : Int) (ha : a < 0) (w : World) : Calls Try.prog 26 #[.int .i64 a] w (NewPost 0 w) := by
  have hmk := mk_rows 0 (by omega)
  simp only [Int.cast_ofNat_Int] at hmk
  go_enter Try.func26, Try.ntmps26
  go_wp2
  go_region
  · go_wp2
    have h := alloc3 w (.cells #[.slice (some ⟨w.heap.size + 1, 0, none⟩) 0 0, .slice (some ⟨w.heap.size + 1 + 1, 0, none⟩) 0 0] 28) (nilRows 0) (nilRows 0)
    exact bodyPost_ret (v := .agg #[.slice (some ⟨w.heap.size + 1, 0, none⟩) 0 0, .slice (some ⟨w.heap.size + 1 + 1, 0, none⟩) 0 0]) (by simp [results, Try.results26, go_sem]) rfl (NewPost.mk' h.1 h.2.1 (by omega) (by omega) (by omega) h.2.2)
  · go_wp2
    have h := alloc3 w (.cells #[.slice (some ⟨w.heap.size + 1 + 1, 0, none⟩) 0 0, .slice (some ⟨w.heap.size + 1, 0, none⟩) 0 0] 28) (nilRows 0) (nilRows 0)
    exact bodyPost_ret (v := .agg #[.slice (some ⟨w.heap.size + 1 + 1, 0, none⟩) 0 0, .slice (some ⟨w.heap.size + 1, 0, none⟩) 0 0]) (by simp [results, Try.results26, go_sem]) rfl (NewPost.mk' h.2.1 h.1 (by omega) (by omega) (by omega) h.2.2)
end Go.Proofs.Ytnkbbjeepdjamaa
