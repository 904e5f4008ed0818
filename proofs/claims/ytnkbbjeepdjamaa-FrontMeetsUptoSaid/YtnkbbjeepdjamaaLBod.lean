/- A head's loop: what the wave over the ways ahead finds. No condition. -/
import Derived.Test.YtnkbbjeepdjamaaFrCl
import Derived.Test.YtnkbbjeepdjamaaFrM
import Derived.Test.YtnkbbjeepdjamaaDOver
namespace Go.Proofs.Ytnkbbjeepdjamaa
open Go.RowKit
/-- The places of h's loop. -/
inductive LB (g : Nat → List Nat) (h : Nat) : Nat → Prop
  | head : LB g h h
  | back {u : Nat} : h ∈ g u → LT.Ov g h u → LB g h u
  | step {v u : Nat} : LB g h v → v ≠ h → v ∈ g u → LT.Ov g u u → LB g h u
def Cls (g : Nat → List Nat) (O : List Int) (v : Nat) : Prop := ∀ u : Nat, v ∈ g u → LT.Ov g u u → (u : Int) ∈ O
theorem Cls.mono {g : Nat → List Nat} {O O' : List Int} {v : Nat} (h : Cls g O v) (hs : ∀ y, y ∈ O → y ∈ O') : Cls g O' v := fun u h1 h2 => hs _ (h u h1 h2)
/-- Between two that are taken. -/
structure LJ (g : Nat → List Nat) (h n : Nat) (O Q : List Int) : Prop where
  sub : ∀ x ∈ O, ∃ y : Nat, x = (y : Int) ∧ y < n ∧ LB g h y
  hd : (h : Int) ∈ O
  bk : ∀ u : Nat, h ∈ g u → LT.Ov g h u → (u : Int) ∈ O
  q : ∀ x ∈ Q, x ∈ O ∧ x ≠ (h : Int)
  done : ∀ v : Nat, (v : Int) ∈ O → v = h ∨ (v : Int) ∈ Q ∨ Cls g O v
  len : O.length ≤ n
/-- While the places ahead of one that was taken are looked at. -/
structure LI (g : Nat → List Nat) (h n v : Nat) (l : List Nat) (M k : Nat) (O Q : List Int) : Prop where
  sub : ∀ x ∈ O, ∃ y : Nat, x = (y : Int) ∧ y < n ∧ LB g h y
  hd : (h : Int) ∈ O
  bk : ∀ u : Nat, h ∈ g u → LT.Ov g h u → (u : Int) ∈ O
  q : ∀ x ∈ Q, x ∈ O ∧ x ≠ (h : Int)
  done : ∀ v' : Nat, (v' : Int) ∈ O → v' = h ∨ (v' : Int) ∈ Q ∨ Cls g O v' ∨ v' = v
  got : ∀ (j u : Nat), j < k → l[j]? = some u → LT.Ov g u u → (u : Int) ∈ O
  len : O.length ≤ n
  meas : 2 * (n - O.length) + Q.length ≤ M
/-- While the places ahead of the head are looked at. -/
structure LP (g : Nat → List Nat) (h n : Nat) (l : List Nat) (k : Nat) (b : Bool) (O Q : List Int) : Prop where
  sub : ∀ x ∈ O, ∃ y : Nat, x = (y : Int) ∧ y < n ∧ LB g h y
  hd : (h : Int) ∈ O
  got : ∀ (j u : Nat), j < k → l[j]? = some u → LT.Ov g h u → (u : Int) ∈ O
  q : ∀ x ∈ Q, x ∈ O ∧ x ≠ (h : Int)
  done : ∀ v : Nat, (v : Int) ∈ O → v = h ∨ (v : Int) ∈ Q
  flag : b = true ↔ ∃ j u, j < k ∧ l[j]? = some u ∧ LT.Ov g h u
  len : O.length ≤ n
  lq : Q.length + 1 ≤ O.length
section
variable {g : Nat → List Nat} {h n v M k : Nat} {l : List Nat} {b : Bool} {O Q : List Int}
theorem LP.start (hn : h < n) : LP g h n l 0 false [(h : Int)] [] :=
  ⟨fun x hx => by rw [List.mem_singleton.1 hx]; exact ⟨h, rfl, hn, .head⟩, by simp, fun j u hj => by omega, fun x hx => by simp at hx, fun v hv => .inl (Int.natCast_inj.1 (List.mem_singleton.1 hv)), Iff.intro (fun e => by cases e) (fun ⟨j, u, hj, _⟩ => by omega), by simp; omega, by simp⟩
theorem LP.skip (H : LP g h n l k b O Q) {u : Nat} (hu : l[k]? = some u) (ho : ¬ LT.Ov g h u) : LP g h n l (k + 1) b O Q := by
  refine ⟨H.sub, H.hd, fun j w hj hw hov => ?_, H.q, H.done, H.flag.trans ⟨fun ⟨j, w, a, c, d⟩ => ⟨j, w, by omega, c, d⟩, fun ⟨j, w, a, c, d⟩ => ?_⟩, H.len, H.lq⟩
  · by_cases e : j = k
    · subst e; rw [hu] at hw; exact absurd (Option.some.inj hw ▸ hov) ho
    · exact H.got j w (by omega) hw hov
  · by_cases e : j = k
    · subst e; rw [hu] at c; exact absurd (Option.some.inj c ▸ d) ho
    · exact ⟨j, w, by omega, c, d⟩
theorem LP.hit (H : LP g h n l k b O Q) {u : Nat} (hu : l[k]? = some u) (ho : LT.Ov g h u) (hm : (u : Int) ∈ O) : LP g h n l (k + 1) true O Q := by
  refine ⟨H.sub, H.hd, fun j w hj hw hov => ?_, H.q, H.done, ⟨fun _ => ⟨k, u, by omega, hu, ho⟩, fun _ => rfl⟩, H.len, H.lq⟩
  by_cases e : j = k
  · subst e; rw [hu] at hw; exact Option.some.inj hw ▸ hm
  · exact H.got j w (by omega) hw hov
theorem LP.new (H : LP g h n l k b O Q) (hs : Srt ltI O) {u : Nat} (hu : l[k]? = some u) (ho : LT.Ov g h u) (he : h ∈ g u) (hun : u < n) (hm : (u : Int) ∉ O) {Q' : List Int} (hq : ∀ y, y ∈ Q' ↔ y ∈ Q ∨ y = (u : Int)) (hql : Q'.length ≤ Q.length + 1) : LP g h n l (k + 1) true (ins ltI (u : Int) O) Q' := by
  have hi : ∀ y, y ∈ ins ltI (u : Int) O ↔ y = (u : Int) ∨ y ∈ O := fun y => mem_ins (u : Int) y O
  have hsub : ∀ x ∈ ins ltI (u : Int) O, ∃ y : Nat, x = (y : Int) ∧ y < n ∧ LB g h y := fun x hx => by
    rcases (hi x).1 hx with rfl | hx
    · exact ⟨u, rfl, hun, .back he ho⟩
    · exact H.sub x hx
  refine ⟨hsub, (hi _).2 (.inr H.hd), fun j w hj hw hov => ?_, fun x hx => ?_, fun v hv => ?_, ⟨fun _ => ⟨k, u, by omega, hu, ho⟩, fun _ => rfl⟩, ?_, (by rw [length_ins, if_neg hm]; have := H.lq; omega)⟩
  · by_cases e : j = k
    · subst e; rw [hu] at hw; exact (hi _).2 (.inl (by rw [Option.some.inj hw]))
    · exact (hi _).2 (.inr (H.got j w (by omega) hw hov))
  · rcases (hq x).1 hx with e | e
    · exact ⟨(hi x).2 (.inr (H.q x e).1), (H.q x e).2⟩
    · exact ⟨(hi x).2 (.inl e), fun e2 => hm (by rw [← e, e2]; exact H.hd)⟩
  · rcases (hi _).1 hv with e | e
    · exact .inr ((hq _).2 (.inr e))
    · exact (H.done v e).imp id (fun e => (hq _).2 (.inl e))
  · exact set_len (srt_ins ordI _ _ hs) (fun x hx => by obtain ⟨y, e, hy, _⟩ := hsub x hx; exact ⟨y, e, hy⟩)
/-- The first wave's end. -/
theorem LP.leave (H : LP g h n l l.length b O Q) (hl : ∀ u : Nat, u ∈ l ↔ h ∈ g u) : LJ g h n O Q ∧ (b = true ↔ ∃ u, h ∈ g u ∧ LT.Ov g h u) := by
  refine ⟨⟨H.sub, H.hd, fun u h1 h2 => ?_, H.q, fun v hv => (H.done v hv).imp id .inl, H.len⟩, H.flag.trans ⟨fun ⟨j, u, _, a, c⟩ => ⟨u, (hl u).1 (List.mem_of_getElem? a), c⟩, fun ⟨u, a, c⟩ => ?_⟩⟩
  · obtain ⟨j, hj⟩ := List.getElem?_of_mem ((hl u).2 h1)
    exact H.got j u (List.getElem?_eq_some_iff.1 hj).1 hj h2
  · obtain ⟨j, hj⟩ := List.getElem?_of_mem ((hl u).2 a)
    exact ⟨j, u, (List.getElem?_eq_some_iff.1 hj).1, hj, c⟩
/-- One is taken: a place, not the head. -/
theorem LJ.enter {x : Int} (H : LJ g h n O (x :: Q)) : ∃ v : Nat, x = (v : Int) ∧ v < n ∧ v ≠ h ∧ LB g h v ∧ LI g h n v l (2 * (n - O.length) + Q.length) 0 O Q := by
  obtain ⟨h1, h2⟩ := H.q x List.mem_cons_self
  obtain ⟨v, rfl, hv, hb⟩ := H.sub x h1
  refine ⟨v, rfl, hv, fun e => h2 (by rw [e]), hb, H.sub, H.hd, H.bk, fun y hy => H.q y (List.mem_cons_of_mem _ hy), fun w hw => ?_, fun j u hj => by omega, H.len, Nat.le_refl _⟩
  rcases H.done w hw with e | e | e
  · exact .inl e
  · rcases List.mem_cons.1 e with e | e
    · exact .inr (.inr (.inr (by omega)))
    · exact .inr (.inl e)
  · exact .inr (.inr (.inl e))
theorem LI.leave (H : LI g h n v l M l.length O Q) (hl : ∀ u : Nat, v ∈ g u → u ∈ l) : LJ g h n O Q := by
  refine ⟨H.sub, H.hd, H.bk, H.q, fun w hw => ?_, H.len⟩
  rcases H.done w hw with e | e | e | e
  · exact .inl e
  · exact .inr (.inl e)
  · exact .inr (.inr e)
  · refine .inr (.inr fun u h1 h2 => ?_)
    subst e
    obtain ⟨j, hj⟩ := List.getElem?_of_mem (hl u h1)
    exact H.got j u (List.getElem?_eq_some_iff.1 hj).1 hj h2
theorem LI.skip (H : LI g h n v l M k O Q) {u : Nat} (hu : l[k]? = some u) (ho : LT.Ov g u u → (u : Int) ∈ O) : LI g h n v l M (k + 1) O Q := by
  refine ⟨H.sub, H.hd, H.bk, H.q, H.done, fun j w hj hw hov => ?_, H.len, H.meas⟩
  by_cases e : j = k
  · subst e
    rw [hu] at hw
    obtain rfl := Option.some.inj hw
    exact ho hov
  · exact H.got j w (by omega) hw hov
theorem LI.new (H : LI g h n v l M k O Q) (hs : Srt ltI O) {u : Nat} (hu : l[k]? = some u) (ho : LT.Ov g u u) (hvh : v ≠ h) (hvb : LB g h v) (he : v ∈ g u) (hun : u < n) (hm : (u : Int) ∉ O) {Q' : List Int} (hq : ∀ y, y ∈ Q' ↔ y ∈ Q ∨ y = (u : Int)) (hql : Q'.length ≤ Q.length + 1) : LI g h n v l M (k + 1) (ins ltI (u : Int) O) Q' := by
  have hi : ∀ y, y ∈ ins ltI (u : Int) O ↔ y = (u : Int) ∨ y ∈ O := fun y => mem_ins (u : Int) y O
  have hsub : ∀ x ∈ ins ltI (u : Int) O, ∃ y : Nat, x = (y : Int) ∧ y < n ∧ LB g h y := fun x hx => by
    rcases (hi x).1 hx with rfl | hx
    · exact ⟨u, rfl, hun, .step hvb hvh he ho⟩
    · exact H.sub x hx
  have hlen : (ins ltI (u : Int) O).length ≤ n := set_len (srt_ins ordI _ _ hs) (fun x hx => by obtain ⟨y, e, hy, _⟩ := hsub x hx; exact ⟨y, e, hy⟩)
  have hle : (ins ltI (u : Int) O).length = O.length + 1 := by rw [length_ins, if_neg hm]
  refine ⟨hsub, (hi _).2 (.inr H.hd), fun w h1 h2 => (hi _).2 (.inr (H.bk w h1 h2)), fun x hx => ?_, fun w hw => ?_, fun j w hj hw hov => ?_, hlen, by have := H.meas; omega⟩
  · rcases (hq x).1 hx with e | e
    · exact ⟨(hi x).2 (.inr (H.q x e).1), (H.q x e).2⟩
    · exact ⟨(hi x).2 (.inl e), fun e2 => hm (by rw [← e, e2]; exact H.hd)⟩
  · rcases (hi _).1 hw with e | e
    · exact .inr (.inl ((hq _).2 (.inr e)))
    · rcases H.done w e with a | a | a | a
      · exact .inl a
      · exact .inr (.inl ((hq _).2 (.inl a)))
      · exact .inr (.inr (.inl (a.mono fun y hy => (hi y).2 (.inr hy))))
      · exact .inr (.inr (.inr a))
  · by_cases e : j = k
    · subst e; rw [hu] at hw; exact (hi _).2 (.inl (by rw [Option.some.inj hw]))
    · exact (hi _).2 (.inr (H.got j w (by omega) hw hov))
theorem LJ.fin (H : LJ g h n O []) (y : Nat) : (y : Int) ∈ O ↔ LB g h y := by
  constructor
  · intro hy
    obtain ⟨z, e, _, hz⟩ := H.sub _ hy
    have e2 := Int.natCast_inj.1 e
    rw [e2]; exact hz
  · intro hy
    induction hy with
    | head => exact H.hd
    | back h1 h2 => exact H.bk _ h1 h2
    | step _ hne h1 h2 ih =>
      rcases H.done _ ih with e | e | e
      · exact absurd e hne
      · simp at e
      · exact e _ h1 h2
end
end Go.Proofs.Ytnkbbjeepdjamaa
