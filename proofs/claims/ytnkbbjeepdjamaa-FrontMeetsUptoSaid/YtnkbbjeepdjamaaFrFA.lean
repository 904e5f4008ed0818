/- A set that grows beside a queue, in a call's own memory; blocks that stay. No condition. -/
import Derived.Test.YtnkbbjeepdjamaaAllIt
import Derived.Test.YtnkbbjeepdjamaaFrM
import Derived.Test.YtnkbbjeepdjamaaFrCl
namespace Go.Proofs.Ytnkbbjeepdjamaa
open Go.RowKit
/-- The set in its box (p), the queue (q), blocks that stay (Z), of some of these what they hold (Fx). -/
structure FA (w : World) (base p q : Nat) (Fx : Nat → Obj → Prop) (Z : Nat → Prop) (O Q : List Int) (F : Nat → Prop) (W : World) : Prop where
  below : Below base w W
  fx : ∀ z o, Fx z o → W.heap[z]? = some o
  fz : ∀ z o, Fx z o → Z z
  out : ∃ v, W.heap[p]? = some (.cells #[v] 57 (0, 0)) ∧ IsSetI W base v O ∧ ∀ g, v.ownBlock = some g → ¬ F g ∧ ¬ Z g
  que : QI.QueueAt W base q F Q
  rsv : ∀ z, Z z → z < W.heap.size ∧ ¬ F z ∧ z ≠ p
  pn : ¬ F p ∧ base ≤ p
section
variable {w W W' : World} {base p q : Nat} {Fx : Nat → Obj → Prop} {Z : Nat → Prop} {O Q : List Int} {F : Nat → Prop}
theorem FA.lt (h : FA w base p q Fx Z O Q F W) : base ≤ W.heap.size ∧ p < W.heap.size := by
  obtain ⟨v, h1, _⟩ := h.out
  have := lt_blk h1
  have := h.pn.2
  omega
/-- What is changed stays, and holds nothing that is told. -/
theorem FA.only {T : Nat → Prop} (h : FA w base p q Fx Z O Q F W) (ho : Only T W W') (hT : ∀ k, T k → (Z k ∧ base ≤ k ∧ ∀ o, ¬ Fx k o) ∨ W.heap.size ≤ k) : FA w base p q Fx Z O Q F W' := by
  have hl := h.lt
  have nF : ∀ k, F k → ¬ T k := fun k hk e => by
    rcases hT k e with e | e
    · exact (h.rsv k e.1).2.1 hk
    · have := (h.que.foot k hk).2; omega
  have nP : ¬ T p := fun e => by
    rcases hT p e with e | e
    · exact (h.rsv p e.1).2.2 rfl
    · omega
  obtain ⟨v, h1, h2, h3⟩ := h.out
  refine ⟨h.below.trans (ho.below hl.1 (fun k hk e => ?_)), fun z o hz => ?_, h.fz, ⟨v, (ho.block p hl.2 nP).trans h1, h2.only ho (fun g hg e => ?_), h3⟩, h.que.only ho nF, fun z hz => ⟨Nat.lt_of_lt_of_le (h.rsv z hz).1 ho.size, (h.rsv z hz).2⟩, h.pn⟩
  · rcases hT k e with e | e <;> omega
  · refine (ho.block z (lt_blk (h.fx z o hz)) (fun e => ?_)).trans (h.fx z o hz)
    rcases hT z e with e | e
    · exact e.2.2 o hz
    · have := lt_blk (h.fx z o hz); omega
  · rcases hT g e with e | e
    · exact (h3 g hg).2 e.1
    · have := (isset_lt h2 hg).2; omega
theorem FA.later (h : FA w base p q Fx Z O Q F W) (hb : Below W.heap.size W W') : FA w base p q Fx Z O Q F W' := h.only (Only.of_below hb) (fun _ hk => .inr hk)
theorem FA.same (h : FA w base p q Fx Z O Q F W) (ho : Only (fun _ => False) W W') : FA w base p q Fx Z O Q F W' := h.only ho (fun _ hk => hk.elim)
/-- More blocks stay: new ones, with what they hold. -/
theorem FA.more (h : FA w base p q Fx Z O Q F W) {Fx' : Nat → Obj → Prop} {Z' : Nat → Prop} (ho : Only (fun _ => False) W W') (hz : ∀ z, Z' z → Z z ∨ (W.heap.size ≤ z ∧ z < W'.heap.size)) (hzz : ∀ z, Z z → Z' z) (hf : ∀ z o, Fx' z o → Fx z o ∨ (Z' z ∧ W'.heap[z]? = some o)) : FA w base p q Fx' Z' O Q F W' := by
  have h' := h.same ho
  have hl := h.lt
  refine ⟨h'.below, fun z o hz => (hf z o hz).elim (h'.fx z o) (fun e => e.2), fun z o hz => (hf z o hz).elim (fun e => hzz z (h'.fz z o e)) (fun e => e.1), ?_, h'.que, fun z hz' => ?_, h.pn⟩
  · obtain ⟨v, h1, h2, h3⟩ := h.out
    obtain ⟨v', k1, k2, k3⟩ := h'.out
    have e : v' = v := by
      have := (ho.block p hl.2 id).trans h1
      rw [k1] at this; simpa using this
    subst e
    refine ⟨v', k1, k2, fun g hg => ⟨(h3 g hg).1, fun e => ?_⟩⟩
    rcases hz g e with e | e
    · exact (h3 g hg).2 e
    · have := (isset_lt h2 hg).2; omega
  · rcases hz z hz' with e | e
    · exact h'.rsv z e
    · exact ⟨e.2, fun hk => by have := (h.que.foot z hk).2; omega, by omega⟩
/-- Fewer facts are kept. -/
theorem FA.less (h : FA w base p q Fx Z O Q F W) {Fx' : Nat → Obj → Prop} {Z' : Nat → Prop} (hz : ∀ z, Z' z → Z z) (hf : ∀ z o, Fx' z o → Fx z o ∧ Z' z) : FA w base p q Fx' Z' O Q F W :=
  ⟨h.below, fun z o k => h.fx z o (hf z o k).1, fun z o k => (hf z o k).2, h.out.elim fun v k => ⟨v, k.1, k.2.1, fun g hg => ⟨(k.2.2 g hg).1, fun e => (k.2.2 g hg).2 (hz g e)⟩⟩, h.que, fun z k => h.rsv z (hz z k), h.pn⟩
/-- One is taken off the queue. -/
theorem FA.take (h : FA w base p q Fx Z O Q F W) {Q' : List Int} (hq : QI.QueueAt W' base q F Q') (ho : Only F W W') : FA w base p q Fx Z O Q' F W' ∧ ∀ z, Z z → W'.heap[z]? = W.heap[z]? := by
  have hl := h.lt
  obtain ⟨v, h1, h2, h3⟩ := h.out
  have kz : ∀ z, Z z → W'.heap[z]? = W.heap[z]? := fun z hz => ho.block z (h.rsv z hz).1 (h.rsv z hz).2.1
  exact ⟨⟨h.below.trans (ho.below hl.1 (fun k hk e => by have := (h.que.foot k e).1; omega)), fun z o hz => (kz z (h.fz z o hz)).trans (h.fx z o hz), h.fz, ⟨v, (ho.block p hl.2 h.pn.1).trans h1, h2.only ho (fun g hg => (h3 g hg).1), h3⟩, hq, fun z hz => ⟨Nat.lt_of_lt_of_le (h.rsv z hz).1 ho.size, (h.rsv z hz).2⟩, h.pn⟩, kz⟩
/-- A number is put into the set. -/
theorem FA.add (h : FA w base p q Fx Z O Q F W) (x : Int) (hl : O.length ≤ 1048576) :
    Calls Try.prog 38 #[.pointer (some ⟨p, 0, none⟩), .int .i64 x] W fun e W' => e = .returned (.bool (!decide (x ∈ O))) ∧ FA w base p q Fx Z (ins ltI x O) Q F W' ∧ ∀ z, Z z → W'.heap[z]? = W.heap[z]? := by
  have hlt := h.lt
  obtain ⟨v, h1, h2, h3⟩ := h.out
  refine (addI base p 0 v O x W h2 hl #[v] 57 h1 rfl (isset_ne h2 h1 (by decide)) hlt.1).mono ?_
  rintro e W' ⟨v', rfl, k1, k2, k3⟩
  have hp := k2.blk _ _ _ h1
  simp at hp
  have kz : ∀ z, Z z → W'.heap[z]? = W.heap[z]? := fun z hz => k2.only.block z (h.rsv z hz).1 (fun e => e.elim (h.rsv z hz).2.2 (fun e => (h3 z e).2 hz))
  have hnew : ∀ g, v'.ownBlock = some g → v.ownBlock = some g ∨ W.heap.size ≤ g := fun g hg => by
    rcases k3 with e | ⟨g', e1, e2⟩
    · exact .inl (by rw [← e]; exact hg)
    · rw [hg] at e1; injection e1 with e1; exact .inr (by omega)
  refine ⟨rfl, ⟨h.below.trans (k2.only.below hlt.1 (fun k hk e => ?_)), fun z o hz => (kz z (h.fz z o hz)).trans (h.fx z o hz), h.fz, ⟨v', hp, k1, fun g hg => ?_⟩, h.que.only k2.only (fun k hk e => ?_), fun z hz => ⟨Nat.lt_of_lt_of_le (h.rsv z hz).1 k2.only.size, (h.rsv z hz).2⟩, h.pn⟩, kz⟩
  · rcases e with e | e
    · have := h.pn.2; omega
    · have := (isset_lt h2 e).1; omega
  · rcases hnew g hg with e | e
    · exact h3 g e
    · exact ⟨fun hk => by have := (h.que.foot g hk).2; omega, fun hk => by have := (h.rsv g hk).1; omega⟩
  · rcases e with e | e
    · exact h.pn.1 (e ▸ hk)
    · exact (h3 k e).1 hk
/-- A number is put into the queue. -/
theorem FA.put (h : FA w base p q Fx Z O Q F W) (x : Int) (hl : Q.length < 1000) :
    Calls Try.prog 65 #[.pointer (some ⟨q, 0, none⟩), .int .i64 x] W fun e W' => (∃ b, e = .returned (.bool b)) ∧ ∃ Q' F', FA w base p q Fx Z O Q' F' W' ∧ (∀ y, y ∈ Q' ↔ y ∈ Q ∨ y = x) ∧ Q'.length ≤ Q.length + 1 ∧ ∀ z, Z z → W'.heap[z]? = W.heap[z]? := by
  have hlt := h.lt
  by_cases hx : x ∈ Q
  · refine (QI.put_old h.que x hx).mono ?_
    rintro e W' ⟨rfl, rfl⟩
    exact ⟨⟨_, rfl⟩, Q, F, h, fun y => ⟨.inl, fun e => e.elim id (fun e => e ▸ hx)⟩, by omega, fun _ _ => rfl⟩
  · refine (QI.put_new h.que x hx hl hlt.1).mono ?_
    rintro e W' ⟨rfl, hq, ho⟩
    have kz : ∀ z, Z z → W'.heap[z]? = W.heap[z]? := fun z hz => ho.block z (h.rsv z hz).1 (h.rsv z hz).2.1
    obtain ⟨v, h1, h2, h3⟩ := h.out
    refine ⟨⟨_, rfl⟩, Q ++ [x], _, ⟨h.below.trans (ho.below hlt.1 (fun k hk e => by have := (h.que.foot k e).1; omega)), fun z o hz => (kz z (h.fz z o hz)).trans (h.fx z o hz), h.fz, ⟨v, (ho.block p hlt.2 h.pn.1).trans h1, h2.only ho (fun g hg => (h3 g hg).1), fun g hg => ⟨fun e => ?_, (h3 g hg).2⟩⟩, hq, fun z hz => ⟨Nat.lt_of_lt_of_le (h.rsv z hz).1 ho.size, fun e => ?_, (h.rsv z hz).2.2⟩, fun e => ?_, h.pn.2⟩, fun y => by simp, by simp, kz⟩
    · rcases e with e | e
      · exact (h3 g hg).1 e
      · have := (isset_lt h2 hg).2; omega
    · rcases e with e | e
      · exact (h.rsv z hz).2.1 e
      · have := (h.rsv z hz).1; omega
    · rcases e with e | e
      · exact h.pn.1 e
      · omega
end
end Go.Proofs.Ytnkbbjeepdjamaa
