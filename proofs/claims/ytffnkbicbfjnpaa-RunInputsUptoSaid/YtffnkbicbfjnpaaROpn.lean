/- Arguments opened to kinds: what is read of a type is a value of the print's kind. Conditions: the types' forms, as hypotheses. -/
import Derived.Test.YtffnkbicbfjnpaaRP
import Derived.Deep.Slices
import Derived.ChangeArms
import Derived.ChangeSame
import Derived.WideShapes
namespace Go.Proofs.Ytffnkbicbfjnpaa
open Go.ChangeShapes Go.WideShapes Go.Deep Go.Proofs.YtffnkbicbfjnpaaW.PrintWords
open Go.Proofs.YtffnkbicbfjnpaaW.PrintWords (Kd)
section
variable {H : Type} {α β : Type} (enc : TypeId × Value → H) (P : Program) (w : World) (base : Nat) (spare : Nat → Bool) (held : Bool)
/-- What is read of type T is a d with p. -/
def Opn (T : TypeId) (d : Kd α) (p : α → Prop) : Prop := ∀ n cs x, DataW.trod enc P w base spare held n T cs = some x → ∃ a, d.K w a cs ∧ p a
/-- The fields fs, from cell o on. -/
def OpnF (fs : List Field) (o : Nat) (d : Kd α) (p : α → Prop) : Prop := ∀ (n : Nat) (cs : List Value), (∀ f ∈ fs, ∃ x, DataW.trod enc P w base spare held n f.type ((cs.drop f.offset).take (P.cellsOf f.type)) = some x) → ∃ a, d.K w a ((cs.drop o).take d.sz) ∧ p a
variable {enc P w base spare held}
theorem opn_int {T : TypeId} {k : IntKind} (hu : P.underlying T = some (.int k)) : Opn enc P w base spare held T (Kd.int k) (fun i => (Lit.int k i).wf = true) := by
  intro n cs x h
  obtain ⟨i, h1, _, h3⟩ := DataW.trod_int hu h
  exact ⟨i, h1, h3⟩
theorem opn_bool {T : TypeId} (hu : P.underlying T = some .bool) : Opn enc P w base spare held T Kd.bool (fun _ => True) := by
  intro n cs x h
  obtain ⟨b, h1, _⟩ := DataW.trod_bool hu h
  exact ⟨b, h1, trivial⟩
theorem rows_choose {R : Nat → α → Prop} : ∀ n, (∀ i, i < n → ∃ a, R i a) → ∃ l : List α, l.length = n ∧ ∀ i a, l[i]? = some a → R i a
  | 0, _ => ⟨[], rfl, fun i a h => by simp at h⟩
  | n + 1, h => by
    obtain ⟨l, hl, hr⟩ := rows_choose n (fun i hi => h i (by omega))
    obtain ⟨a, ha⟩ := h n (by omega)
    refine ⟨l ++ [a], by simp [hl], fun i b hb => ?_⟩
    by_cases hi : i < l.length
    · rw [List.getElem?_append_left hi] at hb; exact hr i b hb
    · rw [List.getElem?_append_right (by omega)] at hb
      obtain ⟨hlt, rfl⟩ := List.getElem?_eq_some_iff.1 hb
      simp at hlt
      have : i = n := by omega
      subst this
      simpa using ha
theorem cells_at {a : Addr} {n : Nat} {cs : List Value} (h : w.cells? base a n = some cs) : cs.length = n ∧ ∀ i u, cs[i]? = some u → w.cell? (a.add i) = some u := by
  obtain ⟨_, hlen, hc⟩ := World.cells?_some h
  exact ⟨hlen, fun i u hu => by
    have := hc i (by rw [← hlen]; exact (List.getElem?_eq_some_iff.1 hu).1)
    rw [this]; exact hu⟩
/-- A row. -/
theorem opn_row {T e : TypeId} {d : Kd α} {p : α → Prop} (ht : P.underlying T = some (.slice e)) (hz : P.cellsOf e = d.sz) (h : Opn enc P w base spare held e d p) {n : Nat} {cs : List Value} {x : DataW H × List MemPlace} (hd : DataW.trod enc P w base spare held n T cs = some x) :
    ∃ A c, ∃ l : List α, cs = [.slice A l.length c] ∧ l.length ≤ c ∧ c ≤ maxLen ∧ d.C w A l.length l ∧ ∀ y ∈ l, p y := by
  rcases open_slice ht hd with ⟨h0, _⟩ | ⟨a, len, cap, m, n', D, Pl, rfl, hb, hl, hm, hmm, _, hx⟩
  · exact ⟨none, 0, [], h0, by simp, by unfold maxLen; omega, ⟨rfl, by simp, fun h => by simp at h⟩, fun y hy => by cases hy⟩
  · have hlm : len ≤ m := by rw [hmm]; split <;> omega
    obtain ⟨l, hlen, hr⟩ := rows_choose (R := fun i y => ∃ c, c.length = d.sz ∧ d.K w y c ∧ (∀ j u, c[j]? = some u → w.cell? (a.add (i * d.sz + j)) = some u) ∧ p y) len (fun i hi => by
      obtain ⟨c, h1, h2⟩ := hx i (by omega)
      obtain ⟨y, hy, hp⟩ := h _ _ _ h2
      obtain ⟨h3, h4⟩ := cells_at h1
      refine ⟨y, c, by rw [h3, hz], hy, fun j u hj => ?_, hp⟩
      have := h4 j u hj
      rw [hz] at this
      have e : (a.add (i * d.sz)).add j = a.add (i * d.sz + j) := by
        unfold Addr.add
        by_cases h1 : i * d.sz = 0 <;> by_cases h2 : j = 0 <;> simp [h1, h2, Nat.add_assoc]
      rw [e] at this
      exact this)
    subst hlen
    refine ⟨some a, cap, l, rfl, hl, hm, ⟨rfl, by have := hm; unfold maxLen at this; omega, fun _ => ⟨a, rfl, fun j y hy => ?_⟩⟩, fun y hy => ?_⟩
    · obtain ⟨c, h1, h2, h3, _⟩ := hr j y hy
      exact ⟨c, h1, h2, h3⟩
    · obtain ⟨j, hj⟩ := List.getElem?_of_mem hy
      obtain ⟨_, _, _, _, h4⟩ := hr j y hj
      exact h4
theorem opn_slice {T e : TypeId} {d : Kd α} {p : α → Prop} (ht : P.underlying T = some (.slice e)) (hz : P.cellsOf e = d.sz) (h : Opn enc P w base spare held e d p) (e' : Nat) : Opn enc P w base spare held T (Kd.slice e' d) (fun l => ∀ y ∈ l, p y) := by
  intro n cs x hd
  obtain ⟨A, c, l, h1, h2, _, h3, h4⟩ := opn_row ht hz h hd
  exact ⟨l, ⟨A, c, h1, h2, h3⟩, h4⟩
theorem opnF_last {f : Field} {o : Nat} {d : Kd α} {p : α → Prop} (h : Opn enc P w base spare held f.type d p) (ho : f.offset = o) (hz : P.cellsOf f.type = d.sz) : OpnF enc P w base spare held [f] o d p := by
  intro n cs hall
  obtain ⟨x, hx⟩ := hall f (by simp)
  rw [ho, hz] at hx
  exact h _ _ _ hx
theorem opnF_cons {f : Field} {fs : List Field} {o o' : Nat} {d1 : Kd α} {d2 : Kd β} {p1 : α → Prop} {p2 : β → Prop} (h : Opn enc P w base spare held f.type d1 p1) (ho : f.offset = o) (hz : P.cellsOf f.type = d1.sz) (ho' : o + d1.sz = o') (hr : OpnF enc P w base spare held fs o' d2 p2) :
    OpnF enc P w base spare held (f :: fs) o (Kd.pair d1 d2) (fun x => p1 x.1 ∧ p2 x.2) := by
  intro n cs hall
  obtain ⟨x, hx⟩ := hall f (by simp)
  rw [ho, hz] at hx
  obtain ⟨a, ha, pa⟩ := h _ _ _ hx
  obtain ⟨b, hb, pb⟩ := hr n cs (fun f' hf' => hall f' (by simp [hf']))
  refine ⟨(a, b), ⟨_, _, ?_, ha, hb⟩, pa, pb⟩
  show (cs.drop o).take (d1.sz + d2.sz) = _
  rw [List.take_add, List.drop_drop, ho']
theorem opn_struct {T : TypeId} {fs : Array Field} {d : Kd α} {p : α → Prop} (ht : P.underlying T = some (.struct fs)) (hz : P.cellsOf T = d.sz) (h : OpnF enc P w base spare held fs.toList 0 d p) : Opn enc P w base spare held T d p := by
  intro n cs x hd
  obtain ⟨xs, n', _, _, hl, hlen, hf⟩ := DataW.trod_struct ht hd
  obtain ⟨a, ha, pa⟩ := h n' cs (fun f hf' => by
    obtain ⟨i, hi⟩ := List.getElem?_of_mem hf'
    have hi' : fs[i]? = some f := by simpa using hi
    have := hf i f hi'
    have hlt : i < xs.length := by rw [hlen]; exact (Array.getElem?_eq_some_iff.1 hi').1
    exact ⟨xs[i], by rw [this, List.getElem?_eq_getElem hlt]⟩)
  refine ⟨a, ?_, pa⟩
  rw [List.drop_zero, List.take_of_length_le (by omega)] at ha
  exact ha
theorem opn_iso {T : TypeId} {d : Kd α} {p : α → Prop} {f : β → α} (hs : ∀ a, ∃ b, f b = a) (h : Opn enc P w base spare held T d p) : Opn enc P w base spare held T (Kd.iso d f) (fun b => p (f b)) := by
  intro n cs x hd
  obtain ⟨a, ha, pa⟩ := h n cs x hd
  obtain ⟨b, rfl⟩ := hs a
  exact ⟨b, ha, pa⟩
end
section
variable {H : Type} {enc : TypeId × Value → H} {w : World} {base : Nat} {spare : Nat → Bool} {held : Bool}
open Go.Proofs.Ytffnkbicbfjnpaa.PRunFuel
theorem opn_line : Opn enc Try.prog w base spare held 34 k34 (fun x => (Lit.int .u8 x.f0).wf = true ∧ (Lit.int .u8 x.f1).wf = true ∧ (Lit.int .u8 x.f2).wf = true ∧ (Lit.int .u8 x.f3).wf = true ∧ (Lit.int .u8 x.f4).wf = true ∧ (Lit.int .u8 x.f5).wf = true ∧ (Lit.int .i16 x.f6).wf = true) :=
  opn_iso (fun a => ⟨⟨a.1, a.2.1, a.2.2.1, a.2.2.2.1, a.2.2.2.2.1, a.2.2.2.2.2.1, a.2.2.2.2.2.2⟩, rfl⟩) (opn_struct Try.underlying34 (by kernel_rfl)
    (opnF_cons (opn_int (by kernel_rfl)) rfl (by kernel_rfl) rfl (opnF_cons (opn_int (by kernel_rfl)) rfl (by kernel_rfl) rfl (opnF_cons (opn_int (by kernel_rfl)) rfl (by kernel_rfl) rfl (opnF_cons (opn_int (by kernel_rfl)) rfl (by kernel_rfl) rfl (opnF_cons (opn_int (by kernel_rfl)) rfl (by kernel_rfl) rfl (opnF_cons (opn_int (by kernel_rfl)) rfl (by kernel_rfl) rfl (opnF_last (opn_int (by kernel_rfl)) rfl (by kernel_rfl)))))))))
theorem opn_block : Opn enc Try.prog w base spare held 138 k138 (fun x => (∀ y ∈ x.f0, (Lit.int .u8 y.f0).wf = true ∧ (Lit.int .u8 y.f1).wf = true ∧ (Lit.int .u8 y.f2).wf = true ∧ (Lit.int .u8 y.f3).wf = true ∧ (Lit.int .u8 y.f4).wf = true ∧ (Lit.int .u8 y.f5).wf = true ∧ (Lit.int .i16 y.f6).wf = true) ∧ (Lit.int .u8 x.f1).wf = true ∧ (Lit.int .u8 x.f2).wf = true ∧ (Lit.int .u8 x.f3).wf = true ∧ (Lit.int .u8 x.f4).wf = true) :=
  opn_iso (fun a => ⟨⟨a.1, a.2.1, a.2.2.1, a.2.2.2.1, a.2.2.2.2⟩, rfl⟩) (opn_struct Try.underlying138 (by kernel_rfl)
    (opnF_cons (opn_slice (by kernel_rfl) (by kernel_rfl) opn_line _) rfl (by kernel_rfl) rfl (opnF_cons (opn_int (by kernel_rfl)) rfl (by kernel_rfl) rfl (opnF_cons (opn_int (by kernel_rfl)) rfl (by kernel_rfl) rfl (opnF_cons (opn_int (by kernel_rfl)) rfl (by kernel_rfl) rfl (opnF_last (opn_int (by kernel_rfl)) rfl (by kernel_rfl)))))))
theorem u8_of_wf {n : Int} (h : (Lit.int .u8 n).wf = true) : 0 ≤ n ∧ n ≤ 255 := by
  simp only [Lit.wf, Bool.and_eq_true, decide_eq_true_eq] at h
  exact h
set_option maxRecDepth 100000 in
/-- A 'Small'. -/
theorem open_small {r : Reach} {b0 : Nat} {v : Value} {d : DataW H} {ps : List MemPlace} (hval : Value.okWide Try.prog w r b0 65 v) (hd : DataW.Trod enc Try.prog w base spare held 65 v d ps) :
    ∃ (s0 : Int) (bare : Bool) (A : Option Addr) (c : Nat) (bs : List S138), v = .agg #[.int .u8 s0, .bool bare, .slice A bs.length c] ∧ bs.length ≤ c ∧ k138.C w A bs.length bs ∧ 0 ≤ s0 ∧ s0 ≤ 255 ∧
      ∀ b ∈ bs, (∀ y ∈ b.f0, (Lit.int .u8 y.f0).wf = true ∧ (Lit.int .u8 y.f1).wf = true ∧ (Lit.int .u8 y.f2).wf = true ∧ (Lit.int .u8 y.f3).wf = true ∧ (Lit.int .u8 y.f4).wf = true ∧ (Lit.int .u8 y.f5).wf = true ∧ (Lit.int .i16 y.f6).wf = true) ∧ (Lit.int .u8 b.f1).wf = true ∧ (Lit.int .u8 b.f2).wf = true ∧ (Lit.int .u8 b.f3).wf = true ∧ (Lit.int .u8 b.f4).wf = true := by
  simp only [Value.okWide, Try.underlying65] at hval
  obtain ⟨cs, rfl, _, _⟩ := hval
  obtain ⟨fuel, hf⟩ := hd
  have hs : Opn enc Try.prog w base spare held 65 (Kd.pair (Kd.int .u8) (Kd.pair Kd.bool (Kd.slice 138 k138))) _ := opn_struct Try.underlying65 (by kernel_rfl)
    (opnF_cons (opn_int (by kernel_rfl)) rfl (by kernel_rfl) rfl (opnF_cons (opn_bool (by kernel_rfl)) rfl (by kernel_rfl) rfl (opnF_last (opn_slice (by kernel_rfl) (by kernel_rfl) opn_block _) rfl (by kernel_rfl))))
  obtain ⟨⟨s0, bare, bs⟩, ⟨c0, c1, e1, rfl, c2, c3, rfl, rfl, A, c, rfl, h3, h4⟩, h5, _, h6⟩ := hs _ _ _ hf
  refine ⟨s0, bare, A, c, bs, ?_, h3, h4, ?_, ?_, h6⟩
  · simp only [Value.cells, List.cons_append, List.nil_append] at e1
    obtain ⟨l⟩ := cs
    simp only at e1
    rw [e1]
  · exact (u8_of_wf h5).1
  · exact (u8_of_wf h5).2
set_option maxRecDepth 100000 in
theorem open_i64s {r : Reach} {b0 : Nat} {v : Value} {d : DataW H} {ps : List MemPlace} (hval : Value.okWide Try.prog w r b0 54 v) (hd : DataW.Trod enc Try.prog w base spare held 54 v d ps) :
    ∃ (A : Option Addr) (c : Nat) (l : List Int), v = .slice A l.length c ∧ l.length ≤ c ∧ ReadsInt w .i64 A l.length l := by
  obtain ⟨A, n, c, rfl⟩ := okWide_slice Try.underlying54 hval
  obtain ⟨fuel, hf⟩ := hd
  have hs : Opn enc Try.prog w base spare held 2 (Kd.int .i64) _ := opn_int (by kernel_rfl)
  obtain ⟨A', c', l, h1, h2, _, h3, _⟩ := opn_row Try.underlying54 (by kernel_rfl) hs hf
  simp only [Value.cells] at h1
  injection h1 with h1 _
  exact ⟨A', c', l, h1, h2, Kd.reads_of_C (d := (0 : Int)) (h1 := fun _ => rfl) h3⟩
end
end Go.Proofs.Ytffnkbicbfjnpaa
