/- graph.First. Conditions: few places. -/
import Derived.Test.YtffnkbicbfjnpaaGReach
import Derived.Test.YtffnkbicbfjnpaaGWalkedF
import Derived.Test.YtffnkbicbfjnpaaGVal
import Derived.Deep.RegionHeld3
namespace Go.Proofs.Ytffnkbicbfjnpaa
open Go.RowKit
namespace WF
theorem rebase {w : World} {base base' : Nat} {e : TypeId} {v : Value} {vs : List Value} (h : RowAt w base e v vs) (hb : ∀ g, v.ownBlock = some g → base' ≤ g) : RowAt w base' e v vs := by
  rcases h with h | ⟨g, o, cap, cur, rfl, _, r⟩
  · exact .inl h
  · exact .inr ⟨g, o, cap, cur, rfl, hb g rfl, r⟩
def OS (B0 : Nat) (c0 c1 : Value) (Z : World) : Prop := Z.cell? ⟨B0, 0, none⟩ = some c0 ∧ Z.cell? ⟨B0, 1, none⟩ = some c1
theorem OS.only {B0 : Nat} {c0 c1 : Value} {Z Y : World} {T : Nat → Prop} (h : OS B0 c0 c1 Z) (ho : Only T Z Y) (hn : ¬ T B0) : OS B0 c0 c1 Y :=
  have hlt := World.block_lt_of_cell? Z _ h.1
  ⟨(ho.cell (p := ⟨B0, 0, none⟩) hlt hn).trans h.1, (ho.cell (p := ⟨B0, 1, none⟩) hlt hn).trans h.2⟩
theorem OS.later {B0 : Nat} {c0 c1 : Value} {Z Y : World} (h : OS B0 c0 c1 Z) (hb : Below Z.heap.size Z Y) : OS B0 c0 c1 Y := h.only (Only.of_below hb) (fun e => by have := World.block_lt_of_cell? Z _ h.1; simp only at this; omega)
/-- What is given. -/
def GPost (w : World) (b : List (List Nat)) (e : Ending) (w' : World) : Prop := ∃ B v, e = .returned (.func (.func 111) #[] #[.pointer (some ⟨B, 0, none⟩)]) ∧ w'.heap[B]? = some (.cells #[v] 40 (0, 0)) ∧ w.heap.size ≤ B ∧ RowAt w' w.heap.size 3 v ((dfs0 (nb b) b.length).pre.map iv) ∧ Below w.heap.size w w'
set_option maxRecDepth 100000 in
set_option maxHeartbeats 4000000 in
theorem gives {w : World} {base : Nat} {gv : Value} {b a : List (List Nat)} {S : Nat → Prop} (h : Gr w base gv b a S) (hf : Few b) :
    Calls Try.prog 40 #[gv] w (GPost w b) := by
  have hmk := mk_falses b.length (by have := hf.n; omega)
  obtain ⟨q1, p1, vs, us, rfl, h1, h2, h3, h4, h5⟩ := h.ex
  have hge : base ≤ w.heap.size := by have := h1.lt (.inl rfl : MatB q1 vs q1); omega
  have H := Lib.hid h
  have HGE := Lib.hid hge
  clear h h1 h2 h3 h4 h5 hge
  go_enter Try.func40, Try.ntmps40
  go_wp2_with fail
  refine (len_calls q1 b.length p1 b.length b.length b.length _).mono ?_
  rintro e w2 ⟨rfl, hb⟩
  generalize hX : World.alloc (World.alloc w _) _ = X at *
  obtain ⟨B0, hB0⟩ : ∃ B0, w.heap.size = B0 := ⟨_, rfl⟩
  obtain ⟨B, hB⟩ : ∃ B, B0 + 1 = B := ⟨_, rfl⟩
  have hx0 : X.heap[B0]? = some (.cells #[.slice (some ⟨q1, 0, none⟩) b.length b.length, .slice (some ⟨p1, 0, none⟩) b.length b.length] 80 (0, 0)) := by
    rw [← hX, ← hB0]; exact (Below.heap_alloc (w.alloc _) _ _ (by simp)).trans (heap_alloc_new' w _)
  have hx1 : X.heap[B]? = some (.cells #[.slice none 0 0] 40 (0, 0)) := by
    rw [← hX, ← hB, ← hB0]; have := heap_alloc_new' (w.alloc (.cells #[.slice (some ⟨q1, 0, none⟩) b.length b.length, .slice (some ⟨p1, 0, none⟩) b.length b.length] 80)) (.cells #[.slice none 0 0] 40); rwa [World.size_alloc] at this
  have hbx : Below w.heap.size w X := hX ▸ ((Below.refl _ _).alloc (Nat.le_refl _) _).alloc (by simp) _
  have hz : X.heap.size = B0 + 2 := by rw [← hX, ← hB0]; simp
  have hzw := hb.size
  have hS1 : OS B0 (.slice (some ⟨q1, 0, none⟩) b.length b.length) (.slice (some ⟨p1, 0, none⟩) b.length b.length) w2 := ⟨cell_of_blk _ _ _ _ _ ((hb.block _ (by omega)).trans hx0) 0, cell_of_blk _ _ _ _ _ ((hb.block _ (by omega)).trans hx0) 1⟩
  have hb2 : w2.heap[B]? = some (.cells #[.slice none 0 0] 40 (0, 0)) := (hb.block _ (by omega)).trans hx1
  have hbw2 := below_two hbx hb
  have HBX := Lib.hid (And.intro hb2 hbw2)
  have HZ := Lib.hid (show B = B0 + 1 ∧ B0 + 2 ≤ w2.heap.size ∧ w.heap.size = B0 by omega)
  rw [hB0, hB]
  clear hb hX hx0 hx1 hbx hz hzw hb2 hbw2 hB0 hB
  by_cases hn : b.length = 0
  · have hd : decide (0 < b.length) = false := decide_eq_false (by omega)
    have hd2 : ((0 : Int) < (b.length : Int)) = False := eq_false (by omega)
    have HN := Lib.hid hn
    have c0 := cell_of_blk _ _ _ _ _ HBX.out.1 0
    have e0 := hS1.1
    have e1 := hS1.2
    simp at c0
    clear hn hS1
    go_wp2_with fail
    refine (SI.values none 0 0 w2).mono ?_
    rintro e w3 ⟨rfl, rfl⟩
    have hbel := below_two HBX.out.2 ((Below.refl w2.heap.size w2).alloc (Nat.le_refl _) (.cells #[.slice none 0 0] 40))
    have HB3 := Lib.hid hbel
    clear c0 e0 e1 hbel
    go_wp2_with fail
    go_ret
    exact ⟨w2.heap.size, _, rfl, heap_alloc_new' w2 _, HBX.out.2.size, by unfold dfs0; rw [if_pos HN.out]; exact RowAt.nil _ _ _, HB3.out⟩
  · have hd : decide (0 < b.length) = true := decide_eq_true (by omega)
    have hd2 : 0 < b.length := by omega
    have HN := Lib.hid hn
    have HWS : Hid (∀ (w4 w6 : World), Below w2.heap.size w2 w4 → w6.heap[w4.heap.size]? = some (falses b.length) → Below w2.heap.size w2 w6 → WS w6 base (.agg #[.slice (some ⟨q1, 0, none⟩) b.length b.length, .slice (some ⟨p1, 0, none⟩) b.length b.length]) b a S w4.heap.size B (dst0 b.length) (fun g => g = B)) := by
      refine Lib.hid (fun w4 w6 h4 hq h6 => ?_)
      have z1 := HZ.out
      have z2 := h4.size
      have z3 := HGE.out
      refine ⟨(H.out.later HBX.out.2).later h6, falses_seen hq, by simp [dst0], BoxRow.new ((h6.block _ (lt_blk HBX.out.1)).trans HBX.out.1) (by omega), fun e => ?_, fun e => ?_, fun g hg e => ?_, by omega, by simp [dst0]⟩
      · have := (H.out.lt e).1; omega
      · have e : w4.heap.size = B := e; omega
      · have e : g = B := e
        have := (H.out.lt hg).1; omega
    clear hn
    have e0 := hS1.1
    have e1 := hS1.2
    go_wp2_with fail
    clear e0 e1
    refine wp_region_held_drew (S := (OS B0 (.slice (some ⟨q1, 0, none⟩) b.length b.length) (.slice (some ⟨p1, 0, none⟩) b.length b.length))) (by kernel_rfl) (by (first | exact hO6 | exact hO5 | exact hO4 | exact hS1)) (fun hHeld => ?_)
    refine wpAnyH_take (i := 0) (oi := { dst := some 7, op := Go.Op.load 80 (Go.Operand.tmp 1), type := 80, pos := "graph.go:92", after := #[], guard := none }) (v := ?_) rfl (by kernel_rfl) (by kernel_rfl) (by kernel_rfl) (fun _ _ _ h => h) (Or.inl ⟨by rfl, ?_⟩) (by assumption) ?_
    rotate_left 1
    · intro w hSw; (obtain ⟨d0, d1⟩ := hSw); go_simp; try with_reducible rfl
    try simp only [Act.put, List.setIfInBounds_toArray, List.set_cons_zero, List.set_cons_succ]
    refine wpAnyH_take (i := 1) (oi := { dst := some 8, op := Go.Op.load 80 (Go.Operand.tmp 1), type := 80, pos := "graph.go:92", after := #[], guard := none }) (v := ?_) rfl (by kernel_rfl) (by kernel_rfl) (by kernel_rfl) (fun _ _ _ h => h) (Or.inl ⟨by rfl, ?_⟩) (by assumption) ?_
    rotate_left 1
    · intro w hSw; (obtain ⟨d0, d1⟩ := hSw); go_simp; try with_reducible rfl
    try simp only [Act.put, List.setIfInBounds_toArray, List.set_cons_zero, List.set_cons_succ]
    refine wpAnyH_take (i := 4) (oi := { dst := some 11, op := Go.Op.makeFunc (Go.Fn.func 85) #[] #[Go.Operand.tmp 3], type := 94, pos := "graph.go:92", after := #[], guard := none }) (v := ?_) rfl (by kernel_rfl) (by kernel_rfl) (by kernel_rfl) (fun _ _ _ h => h) (Or.inl ⟨by rfl, ?_⟩) (by assumption) ?_
    rotate_left 1
    · intro w hSw; (obtain ⟨d0, d1⟩ := hSw); go_simp; try with_reducible rfl
    try simp only [Act.put, List.setIfInBounds_toArray, List.set_cons_zero, List.set_cons_succ]
    refine wpAnyH_ready (rs := [2]) (by kernel_rfl) (by simp) ?_
    refine AllReadyH.cons (o := { dst := some 9, op := Go.Op.call { callee := Go.Callee.value (Go.Operand.func 43), args := #[Go.Operand.tmp 8], argTypes := #[80] }, type := 3, pos := "graph.go:92", after := #[{ on := 1, ground := Go.Ground.data }], guard := none }) rfl (fun K hK => ?_) AllReadyH.nil
    go_simp
    refine (len_calls q1 b.length p1 b.length b.length b.length _).mono ?_
    rintro e w4 ⟨rfl, hb4⟩
    have hbd : Below w2.heap.size w2 w4 := ((Below.refl _ _).drew).trans hb4
    have hO4 : OS B0 (.slice (some ⟨q1, 0, none⟩) b.length b.length) (.slice (some ⟨p1, 0, none⟩) b.length b.length) w4 := hS1.later hbd
    go_wp2_with fail
    refine hK.out _ _ ?_ (fun hHeld1 => ?_)
    · (try dsimp only); (first | exact hO6 | exact hO5 | exact hO4 | exact hS1)
    clear hK K hHeld
    try simp only [Act.put, List.setIfInBounds_toArray, List.set_cons_zero, List.set_cons_succ]
    refine wpAnyH_ready (rs := [3]) (by kernel_rfl) (by simp) ?_
    refine AllReadyH.cons (o := { dst := some 10, op := Go.Op.makeSlice 84 (Go.Operand.tmp 9) (Go.Operand.tmp 9), type := 84, pos := "graph.go:92", after := #[{ on := 2, ground := Go.Ground.data }, { on := 2, ground := Go.Ground.data }], guard := none }) rfl (fun K hK => ?_) AllReadyH.nil
    go_simp
    have hO5 : OS B0 (.slice (some ⟨q1, 0, none⟩) b.length b.length) (.slice (some ⟨p1, 0, none⟩) b.length b.length) (w4.alloc (falses b.length)) := hO4.later ((Below.refl _ _).alloc (Nat.le_refl _) _)
    refine hK.out _ _ ?_ (fun hHeld2 => ?_)
    · (try dsimp only); (first | exact hO6 | exact hO5 | exact hO4 | exact hS1)
    clear hK K hHeld1
    try simp only [Act.put, List.setIfInBounds_toArray, List.set_cons_zero, List.set_cons_succ]
    refine wpAnyH_ready (rs := [5]) (by kernel_rfl) (by simp) ?_
    refine AllReadyH.cons (o := { dst := some 12, op := Go.Op.call { callee := Go.Callee.value (Go.Operand.func 79), args := #[Go.Operand.tmp 7, Go.Operand.const (Go.Value.int Go.IntKind.i64 0), Go.Operand.tmp 10, Go.Operand.tmp 11, Go.Operand.func 86], argTypes := #[80, 3, 84, 94, 94] }, type := 0, pos := "graph.go:92", after := #[{ on := 0, ground := Go.Ground.data }, { on := 3, ground := Go.Ground.data }, { on := 4, ground := Go.Ground.data }, { on := 2, ground := Go.Ground.chain }], guard := none }) rfl (fun K hK => ?_) AllReadyH.nil
    go_simp
    have hbz : Below w2.heap.size w2 (w4.alloc (falses b.length)) := below_two hbd ((Below.refl _ _).alloc (Nat.le_refl _) _)
    have hws := HWS.out _ _ hbd (heap_alloc_new' w4 (falses b.length)) hbz
    refine (WF.walk_ok (B := B) hf.n hf.lt b.length 0 (dst0 b.length) _ (fun g => g = B) hws (by rw [dst0_seen]; exact decide_eq_false (by have := HN.out; omega)) (by simp [dst0, unseen_replicate]) (by simp [dst0, unseen_replicate]) (by simp [dst0, unseen_replicate])).mono ?_
    rintro e w5 ⟨rfl, S3, hw5, hst⟩
    have hO6 : OS B0 (.slice (some ⟨q1, 0, none⟩) b.length b.length) (.slice (some ⟨p1, 0, none⟩) b.length b.length) w5 := hO5.only hst.1 (by rintro (e | e) <;> (have := HZ.out; have := hbd.size; omega))
    have HW5 := Lib.hid (And.intro hw5 (And.intro hst hbz))
    clear hws hw5 hst hbz
    go_wp2_with fail
    refine hK.out _ _ ?_ (fun hHeld3 => ?_)
    · (try dsimp only); (first | exact hO6 | exact hO5 | exact hO4 | exact hS1)
    clear hK K hHeld2
    try simp only [Act.put, List.setIfInBounds_toArray, List.set_cons_zero, List.set_cons_succ]
    refine wpAnyH_done (by kernel_rfl) ?_ _
    have e0 := hO6.1
    obtain ⟨v, f1, f2, f3, f4⟩ := HW5.out.1.jw.ex
    obtain ⟨A, c, rfl, _, _, _⟩ := rowAt_slice f2
    have c0 := cell_of_blk _ _ _ _ _ f1 0
    have hown : ∀ g, (Value.slice A _ c).ownBlock = some g → w.heap.size ≤ g := fun g hg => by
      have z1 := HZ.out
      have z2 := HW5.out.2.2.size
      rcases HW5.out.2.1.2 g ((f4 g).2 (.inr hg)) with e | e
      · have e : g = B := e; omega
      · omega
    have hbel : Below w.heap.size w w5 := (HBX.out.2.trans (HW5.out.2.2.mono HBX.out.2.size)).trans (HW5.out.2.1.1.below (Nat.le_trans HBX.out.2.size HW5.out.2.2.size) (fun k hk e => by
      have z1 := HZ.out
      have z2 := hbd.size
      rcases e with e | e
      · omega
      · have e : k = B := e; omega))
    have hpost : dfs0 (nb b) b.length = dfs (fun i => b.getD i []) b.length 0 (dst0 b.length) := by unfold dfs0; rw [if_neg HN.out]; rfl
    rw [← hpost] at f2 c0 hown
    have hfz : w5.frozen? ⟨B, 0, none⟩ = false := by simp [World.frozen?, f1]
    have HF := Lib.hid (And.intro (rebase f2 hown) (And.intro hbel (And.intro f1 hown)))
    have hln : (dfs0 (nb b) b.length).pre.length ≤ 1048576 ∧ (dfs0 (nb b) b.length).post.length ≤ 1048576 := by rw [hpost]; have := HW5.out.1.few; have := hf.n; omega
    have HLN := Lib.hid hln
    simp at c0
    clear hO4 hO5 hO6 hHeld3 f1 f2 f3 f4 HW5 hown hbel hpost hbd hb4 HWS hln
    go_wp2_with fail
    refine (SI.values A _ c w5).mono ?_
    rintro e w6 ⟨rfl, rfl⟩
    have hr := HF.out.1
    simp only [List.length_map] at hr
    have hbel := HF.out.2.1.alloc HF.out.2.1.size (.cells #[.slice A (dfs0 (nb b) b.length).pre.length c] 40)
    have hr6 := hr.only (Only.alloc (fun _ => False) w5 (.cells #[.slice A (dfs0 (nb b) b.length).pre.length c] 40)) (fun _ _ e => e)
    have HE := Lib.hid (And.intro hr6 hbel)
    clear c0 e0 hr hr6 hbel
    go_wp2_with fail
    go_ret
    exact ⟨w5.heap.size, _, rfl, heap_alloc_new' w5 _, HF.out.2.1.size, HE.out.1, HE.out.2⟩
end WF
end Go.Proofs.Ytffnkbicbfjnpaa
