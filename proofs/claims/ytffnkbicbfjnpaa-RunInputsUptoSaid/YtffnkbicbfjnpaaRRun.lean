/- What run.Run comes to: what 'runP' tells. Conditions: no phis; no more than 2^40 instructions; the inputs are read. -/
import Derived.Test.YtffnkbicbfjnpaaRStepAll
import Derived.Test.YtffnkbicbfjnpaaRCheckAll
namespace Go.Proofs.Ytffnkbicbfjnpaa
open Go.RowKit Go.Proofs.Ytffnkbicbfjnpaa.PRunFuel
open Go.Proofs.YtffnkbicbfjnpaaW.PrintWords (ReadsInt rd Kd)
def ov (o : Out) (tv : Value) : Value := .agg #[.int .u8 o.fin, .int .i64 o.val, tv, .int .i64 o.steps]
def RunPost (o : Out) (W : World) (e : Ending) (W' : World) : Prop :=
  ∃ tv, e = .returned (ov o tv) ∧ W'.ownsRow W.heap.size 2 1 tv o.trace.length (o.trace.map (Value.int .i64)) ∧ Below W.heap.size W W'
/-- The machine at first. -/
theorem mach_new {w0 : World} {mp B : Nat} (inp : List Int) (A : Option Addr) (c : Nat) (hm : MapIs w0 mp .i64 []) (hi : ReadsInt w0 .i64 A inp.length inp) (hc : inp.length ≤ c)
    (p : Nat) (hp : w0.heap[p]? = some (.cells (mcells mp (mc0 inp) 0 0 A c (.slice none 0 0)).toArray 132 (0, 0))) (hB : B ≤ w0.heap.size) (hpB : B ≤ p) (hmB : B ≤ mp) (hn : ∀ g o s, A = some ⟨g, o, s⟩ → 0 < inp.length → g < B) :
    Mach B (fun k => k = p ∨ k = mp) w0 w0 p mp (mc0 inp) 0 0 [] A c (.slice none 0 0) :=
  ⟨hp, hm, fun _ => rfl, rfl, rfl, hi, hc, World.ownsRow_nil _ _ _ _, Only.refl _ _, hB, .inl rfl, .inr rfl, fun g hg => by simp [Value.ownBlock] at hg, fun k hk => by rcases hk with hk | hk <;> omega, hn⟩
/-- The blocks that Run lays at first: the program's box, the outcome, the registers, the machine. -/
theorem run_start (w : World) (v1 : Value) (A : Option Addr) (c : Nat) (inp : List Int) :
    ∀ X : World, ((((w.alloc (.cells #[v1] 57)).alloc (.cells #[.int .u8 0, .int .i64 0, .slice none 0 0, .int .i64 0] 60)).alloc (.map #[] 0)).alloc (.cells ((Try.zeroCells132.setIfInBounds 0 (.map (some (w.heap.size + 1 + 1)))).setIfInBounds 81 (.slice A inp.length c)) 132)) = X →
      Below w.heap.size w X ∧ X.heap[w.heap.size]? = some (.cells #[v1] 57 (0, 0)) ∧ X.heap[w.heap.size + 1]? = some (.cells #[.int .u8 0, .int .i64 0, .slice none 0 0, .int .i64 0] 60 (0, 0)) ∧
      MapIs X (w.heap.size + 1 + 1) .i64 [] ∧ X.heap[w.heap.size + 1 + 1 + 1]? = some (.cells (mcells (w.heap.size + 1 + 1) (mc0 inp) 0 0 A c (.slice none 0 0)).toArray 132 (0, 0)) := by
  rintro X rfl
  have b1 : Below w.heap.size w (w.alloc (.cells #[v1] 57)) := (Below.refl _ _).alloc (Nat.le_refl _) _
  have h1 := heap_alloc_new w (.cells #[v1] 57)
  obtain ⟨X1, hX1⟩ : ∃ X1, w.alloc (.cells #[v1] 57) = X1 := ⟨_, rfl⟩
  have s1 : X1.heap.size = w.heap.size + 1 := by rw [← hX1]; simp
  rw [hX1] at b1 h1 ⊢
  have b2 : Below X1.heap.size X1 (X1.alloc (.cells #[.int .u8 0, .int .i64 0, .slice none 0 0, .int .i64 0] 60)) := (Below.refl _ _).alloc (Nat.le_refl _) _
  have h2 := heap_alloc_new X1 (.cells #[.int .u8 0, .int .i64 0, .slice none 0 0, .int .i64 0] 60)
  obtain ⟨X2, hX2⟩ : ∃ X2, X1.alloc (.cells #[.int .u8 0, .int .i64 0, .slice none 0 0, .int .i64 0] 60) = X2 := ⟨_, rfl⟩
  have s2 : X2.heap.size = w.heap.size + 2 := by rw [← hX2]; simp; omega
  rw [hX2] at b2 h2 ⊢
  have b3 : Below X2.heap.size X2 (X2.alloc (.map #[] 0)) := (Below.refl _ _).alloc (Nat.le_refl _) _
  have h3 := MapIs.new X2 .i64
  obtain ⟨X3, hX3⟩ : ∃ X3, X2.alloc (.map #[] 0) = X3 := ⟨_, rfl⟩
  have s3 : X3.heap.size = w.heap.size + 3 := by rw [← hX3]; simp; omega
  rw [hX3] at b3 h3 ⊢
  obtain ⟨o, ho⟩ : ∃ o, Obj.cells ((Try.zeroCells132.setIfInBounds 0 (.map (some (w.heap.size + 1 + 1)))).setIfInBounds 81 (.slice A inp.length c)) 132 = o := ⟨_, rfl⟩
  rw [ho]
  have b4 : Below X3.heap.size X3 (X3.alloc o) := (Below.refl _ _).alloc (Nat.le_refl _) _
  have h4 := heap_alloc_new X3 o
  have b13 := below_two b1 (below_two b2 (below_two b3 b4))
  rw [s1] at h2; rw [s2] at h3; rw [s3] at h4
  refine ⟨b13, ((below_two b2 (below_two b3 b4)).block _ (by omega)).trans h1, ((below_two b3 b4).block _ (by omega)).trans h2, h3.only (Only.of_below b4) (by omega), h4.trans ?_⟩
  rw [← ho]
  rfl
/-- The outcome's four cells, stored. -/
theorem fin_out {w : World} {r : Nat} {a0 a1 a2 a3 : Value} {t : TypeId} (h : w.heap[r]? = some (.cells #[a0, a1, a2, a3] t (0, 0))) (x0 x1 x2 x3 : Value) :
    ∃ Y, (((w.setCell ⟨r, 0, none⟩ x0).setCell ⟨r, 1, none⟩ x1).setCell ⟨r, 2, none⟩ x2).setCell ⟨r, 3, none⟩ x3 = Y ∧ Y.cell? ⟨r, 0, none⟩ = some x0 ∧ Y.cell? ⟨r, 1, none⟩ = some x1 ∧ Y.cell? ⟨r, 2, none⟩ = some x2 ∧ Y.cell? ⟨r, 3, none⟩ = some x3 ∧ Only (fun k => k = r) w Y := by
  refine ⟨_, rfl, ?_⟩
  have hh : ((((w.setCell ⟨r, 0, none⟩ x0).setCell ⟨r, 1, none⟩ x1).setCell ⟨r, 2, none⟩ x2).setCell ⟨r, 3, none⟩ x3).heap[r]? = some (.cells #[x0, x1, x2, x3] t (0, 0)) := by
    simp [World.setCell, Array.getElem?_modify, h]
  refine ⟨by rw [cell_of_blk _ _ _ _ _ hh]; rfl, by rw [cell_of_blk _ _ _ _ _ hh]; rfl, by rw [cell_of_blk _ _ _ _ _ hh]; rfl, by rw [cell_of_blk _ _ _ _ _ hh]; rfl, ?_⟩
  exact (((Only.setCell w ⟨r, 0, none⟩ x0).trans (Only.setCell _ ⟨r, 1, none⟩ x1) (fun _ _ h => h)).trans (Only.setCell _ ⟨r, 2, none⟩ x2) (fun _ _ h => h)).trans (Only.setCell _ ⟨r, 3, none⟩ x3) (fun _ _ h => h)
theorem run_bad (p : List S31) (A Ai : Option Addr) (c ci : Nat) (inp : List Int) (F : Nat) (W : World) (hF : (F : Int) ≤ 1048576) (hA : Kd.C k31 W A p.length p) (hc : p.length ≤ c) (hm : countP p ≤ 1099511627776) (hp : ∀ b ∈ p, b.f1 = []) (hok : ¬ okP p) :
    Calls Try.prog 29 #[.agg #[.slice A p.length c], .slice Ai inp.length ci, .int .i64 F] W fun e W' => RunPost ⟨1, 0, [], 0⟩ W e W' := by
  have HS := Lib.hid (run_start W (.slice A p.length c) Ai ci inp)
  have HA := Lib.hid (And.intro hA (And.intro hc (And.intro hm (And.intro hp hok))))
  clear hA hc hm hp hok
  have hmm := @run_makeMap Try.prog
  go_enter Try.func29, Try.ntmps29
  go_wp2_with fail
  generalize hX : World.alloc (World.alloc (World.alloc (World.alloc W _) _) _) _ = X
  obtain ⟨hb, h1, h2, h3⟩ := HS.out X hX
  clear hX HS hmm h1 h3
  refine (check_calls p A c X (Kd.C_below HA.out.1 hb) HA.out.2.1 HA.out.2.2.1 HA.out.2.2.2.1).mono ?_
  rintro e W2 ⟨cc, rfl, hcc, hb2⟩
  have hn : cc ≠ 0 := fun h => HA.out.2.2.2.2 (hcc.1 h)
  have hcn : (cc != 0) = true := by rw [bne_iff_ne]; exact hn
  have hr := (hb2.block _ (Array.getElem?_eq_some_iff.1 h2).1).trans h2
  have HB := Lib.hid (below_two hb hb2)
  have q0 : W2.cell? ⟨W.heap.size + 1, 0, none⟩ = some (.int .u8 0) := by rw [cell_of_blk _ _ _ _ _ hr]; rfl
  have q1 : W2.cell? ⟨W.heap.size + 1, 1, none⟩ = some (.int .i64 0) := by rw [cell_of_blk _ _ _ _ _ hr]; rfl
  have q2 : W2.cell? ⟨W.heap.size + 1, 2, none⟩ = some (.slice none 0 0) := by rw [cell_of_blk _ _ _ _ _ hr]; rfl
  have q3 : W2.cell? ⟨W.heap.size + 1, 3, none⟩ = some (.int .i64 0) := by rw [cell_of_blk _ _ _ _ _ hr]; rfl
  have qf : ∀ o, W2.frozen? ⟨W.heap.size + 1, o, none⟩ = false := fun o => by simp [World.frozen?, hr]
  have f0 := qf 0
  have f1 := qf 1
  have f2 := qf 2
  have f3 := qf 3
  have HR := Lib.hid hr
  clear hcc hn h2 hr qf hb hb2
  go_wp2
  obtain ⟨Y, hY, c0, c1, c2, c3, ho⟩ := fin_out HR.out (.int .u8 1) (.int .i64 0) (.slice none 0 0) (.int .i64 0)
  rw [hY]
  refine bodyPost_ret (v := ov ⟨1, 0, [], 0⟩ (.slice none 0 0)) (by simp [results, Try.results29, go_sem, c0, c1, c2, c3, ov]) rfl ⟨_, rfl, World.ownsRow_nil _ _ _ _, ?_⟩
  exact HB.out.trans (ho.below HB.out.size (fun k hk e => by omega))
end Go.Proofs.Ytffnkbicbfjnpaa
