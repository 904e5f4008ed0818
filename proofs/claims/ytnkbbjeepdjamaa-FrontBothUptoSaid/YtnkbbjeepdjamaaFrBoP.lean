/- FrontBoth, the plain part: sets in boxes; what two groups have together. No condition. -/
import Derived.Test.YtnkbbjeepdjamaaFrBoR
import Derived.Test.YtnkbbjeepdjamaaFrCl
namespace Go.Proofs.Ytnkbbjeepdjamaa
open Go.RowKit SI
theorem IsSetI.later' {a b : World} {base : Nat} {v : Value} {xs : List Int} (h : IsSetI a base v xs) (hb : Below a.heap.size a b) : IsSetI b base v xs := h.only (Only.of_below hb) (fun g hg e => by have := (isset_lt h hg).2; omega)
/-- A set in a box, and what it has changed. -/
structure SB (V : World) (p m : Nat) (st : List Int) (W : World) : Prop where
  box : ∃ v, W.heap[p]? = some (.cells #[v] 57 (0, 0)) ∧ IsSetI W V.heap.size v st
  len : st.length ≤ m
  only : Only (fun g => g = p) V W
theorem SB.start {V : World} {p : Nat} (h : V.heap[p]? = some (.cells #[.slice none 0 0] 57 (0, 0))) : SB V p 0 [] V :=
  ⟨⟨_, h, ⟨World.ownsRow_nil _ _ _ _, List.Pairwise.nil⟩⟩, by simp, Only.refl _ _⟩
theorem SB.add {V W : World} {p m : Nat} {st : List Int} (h : SB V p m st W) (y : Nat) (hm : m ≤ 1000) :
    Calls Try.prog 38 #[.pointer (some ⟨p, 0, none⟩), .int .i64 (y : Int)] W fun e W' => (∃ b, e = .returned (.bool b)) ∧ SB V p (m + 1) (ins ltI (y : Int) st) W' := by
  obtain ⟨v, h1, h2⟩ := h.box
  refine (addI V.heap.size p 0 v st (y : Int) W h2 (by have := h.len; omega) #[v] 57 h1 rfl (isset_ne h2 h1 (by decide)) h.only.size).mono ?_
  rintro e W' ⟨v', rfl, h3, h4, _⟩
  refine ⟨⟨_, rfl⟩, ⟨v', ?_, h3⟩, ?_, ?_⟩
  · have := h4.blk _ _ _ h1
    simpa using this
  · have h5 := length_ins (lt := ltI) (y : Int) st
    have := h.len
    split at h5 <;> omega
  · refine h.only.trans h4.only (fun x hx e => ?_)
    rcases e with e | e
    · exact e
    · have := (isset_lt h2 e).1; omega
theorem SB.other {V W W' : World} {p q m : Nat} {st : List Int} {x : Value} (h : SB V p m st W) (hq : W.heap[q]? = some (.cells #[x] 57 (0, 0))) (hne : p ≠ q) (ho : Only (fun g => g = q) W W') : ∃ v, W'.heap[p]? = some (.cells #[v] 57 (0, 0)) ∧ IsSetI W' V.heap.size v st := by
  obtain ⟨v, h1, h2⟩ := h.box
  refine ⟨v, (ho.block p (lt_blk h1) hne).trans h1, h2.only ho (fun g hg e => ?_)⟩
  subst e
  exact isset_ne h2 hq (by decide) hg
theorem SB.bel {V W : World} {p m : Nat} {st : List Int} (h : SB V p m st W) (hp : p ≤ V.heap.size) : Below p V W := h.only.below hp (fun k hk e => by omega)
theorem two_boxes {w X : World} {o0 o1 : Obj} (h : (w.alloc o0).alloc o1 = X) : X.heap[w.heap.size]? = some o0 ∧ X.heap[w.heap.size + 1]? = some o1 ∧ X.heap.size = w.heap.size + 2 ∧ Below w.heap.size w X := by
  subst h
  have n1 := heap_alloc_new' (w.alloc o0) o1
  rw [World.size_alloc] at n1
  exact ⟨(Below.heap_alloc _ _ _ (by simp)).trans (heap_alloc_new' w o0), n1, by simp, ((Below.refl _ _).alloc (Nat.le_refl _) _).alloc (by simp) _⟩
theorem mem_joinL (ys : List Int) : ∀ (xs : List Int) (z : Int), z ∈ joinL xs ys ↔ z ∈ xs ∨ z ∈ ys := by
  induction ys with
  | nil => intro xs z; simp [joinL]
  | cons y ys ih =>
    intro xs z
    have h1 : joinL xs (y :: ys) = joinL (ins ltI y xs) ys := rfl
    rw [h1, ih, mem_ins, List.mem_cons]
    constructor
    · rintro ((e | e) | e)
      · exact .inr (.inl e)
      · exact .inl e
      · exact .inr (.inr e)
    · rintro (e | e | e)
      · exact .inl (.inr e)
      · exact .inl (.inl e)
      · exact .inr e
section
variable {P : Nat → Nat → Prop} {n : Nat}
theorem Cl.mono {s s' : Int → Prop} (h : ∀ x, s x → s' x) {y : Nat} (hy : Cl P n s y) : Cl P n s' y := by
  induction hy with
  | base h1 h2 h3 => exact .base (h _ h1) h2 h3
  | step _ h2 h3 ih => exact .step ih h2 h3
theorem Cl.or {s s' : Int → Prop} {y : Nat} (hy : Cl P n (fun x => s x ∨ s' x) y) : Cl P n s y ∨ Cl P n s' y := by
  induction hy with
  | base h1 h2 h3 => exact h1.imp (fun h => .base h h2 h3) (fun h => .base h h2 h3)
  | step _ h2 h3 ih => exact ih.imp (fun h => .step h h2 h3) (fun h => .step h h2 h3)
theorem Cl.again {s : Int → Prop} {O : List Int} (hO : ∀ x : Int, x ∈ O ↔ ∃ y : Nat, x = (y : Int) ∧ Cl P n s y) {y : Nat} (hy : Cl P n (fun x => x ∈ O) y) : Cl P n s y := by
  induction hy with
  | base h1 h2 h3 =>
    obtain ⟨v', e, hv⟩ := (hO _).1 h1
    have e2 := Int.natCast_inj.1 e
    rw [← e2] at hv
    exact .step hv h2 h3
  | step _ h2 h3 ih => exact .step ih h2 h3
/-- What All answers of a set. -/
def AllOf (P : Nat → Nat → Prop) (n : Nat) (xs O : List Int) : Prop := ∀ x : Int, x ∈ O ↔ ∃ y : Nat, x = (y : Int) ∧ Cl P n (fun z => z ∈ xs) y
theorem both_eq {xs ys Op Oq Or : List Int} (hp : AllOf P n xs Op) (hq : AllOf P n ys Oq) (hr : AllOf P n (joinL xs ys) Or) (s1 : Srt ltI (joinL Op Oq)) (s2 : Srt ltI Or) : joinL Op Oq = Or := by
  refine srt_ext ordI _ _ s1 s2 (fun x => ?_)
  rw [mem_joinL, hp x, hq x, hr x]
  constructor
  · rintro (⟨y, e, hy⟩ | ⟨y, e, hy⟩)
    · exact ⟨y, e, hy.mono (fun z hz => (mem_joinL ys xs z).2 (.inl hz))⟩
    · exact ⟨y, e, hy.mono (fun z hz => (mem_joinL ys xs z).2 (.inr hz))⟩
  · rintro ⟨y, e, hy⟩
    rcases (hy.mono (fun z hz => (mem_joinL ys xs z).1 hz)).or with h | h
    · exact .inl ⟨y, e, h⟩
    · exact .inr ⟨y, e, h⟩
theorem again_eq {xs Oa Or : List Int} (hr : AllOf P n xs Or) (ha : AllOf P n Or Oa) (s1 : Srt ltI (joinL Oa Or)) (s2 : Srt ltI Or) : joinL Oa Or = Or := by
  refine srt_ext ordI _ _ s1 s2 (fun x => ?_)
  rw [mem_joinL]
  constructor
  · rintro (h | h)
    · obtain ⟨y, e, hy⟩ := (ha x).1 h
      exact (hr x).2 ⟨y, e, Cl.again hr hy⟩
    · exact h
  · exact fun h => .inr h
theorem AllOf.len {N : Nat} {xs O : List Int} (h : AllOf P n xs O) (hs : Srt ltI O) (hP : ∀ r y, P r y → y < N) : O.length ≤ N :=
  set_len hs (fun x hx => by
    obtain ⟨y, e, hy⟩ := (h x).1 hx
    refine ⟨y, e, ?_⟩
    cases hy with
    | base _ _ hp => exact hP _ _ hp
    | step _ _ hp => exact hP _ _ hp)
end
/-- The frame between two operations. -/
def PutB (a : Act) (u75 u76 u77 u78 u79 u80 u81 u82 u83 u17 u18 u19 : Value) : Act :=
  (((((((((((a.put (some 75) u75).put (some 76) u76).put (some 77) u77).put (some 78) u78).put (some 79) u79).put (some 80) u80).put (some 81) u81).put (some 82) u82).put (some 83) u83).put (some 17) u17).put (some 18) u18).put (some 19) u19
theorem put_own (a : Act) (k : Nat) : a.put (some k) (a.tmps.getD k undef) = a := by
  have h : a.tmps.setIfInBounds k (a.tmps.getD k undef) = a.tmps := by
    apply Array.ext_getElem?
    intro i
    rw [Array.getElem?_setIfInBounds]
    split
    · rename_i e
      subst e
      split
      · rename_i h; simp [h]
      · rename_i h; rw [Array.getElem?_eq_none (by omega)]
    · rfl
  show { a with tmps := a.tmps.setIfInBounds k (a.tmps.getD k undef) } = a
  rw [h]
def IB (B : Nat) (W0 : World) (vf vx vy vz : Value) (Cx Cy Cz : List Int → Prop) (a0 : Act) (L : Nat → Bool) (a : Act) (w : World) : Prop :=
  ∃ u75 u76 u77 u78 u79 u80 u81 u82 u83 u17 u18 u19, a = PutB a0 u75 u76 u77 u78 u79 u80 u81 u82 u83 u17 u18 u19 ∧ RB B W0 vf vx vy vz Cx Cy Cz L u75 u76 u77 u78 u79 u80 u81 u82 u83 u17 u18 u19 w
theorem IB.start {B : Nat} {W0 : World} {vf vx vy vz : Value} {Cx Cy Cz : List Int → Prop} (a0 : Act) : IB B W0 vf vx vy vz Cx Cy Cz a0 (fun _ => false) a0 W0.drew := by
  refine ⟨a0.tmps.getD 75 undef, a0.tmps.getD 76 undef, a0.tmps.getD 77 undef, a0.tmps.getD 78 undef, a0.tmps.getD 79 undef, a0.tmps.getD 80 undef, a0.tmps.getD 81 undef, a0.tmps.getD 82 undef, a0.tmps.getD 83 undef, a0.tmps.getD 17 undef, a0.tmps.getD 18 undef, a0.tmps.getD 19 undef, ?_, RB.start ..⟩
  unfold PutB
  simp only [put_own]
end Go.Proofs.Ytnkbbjeepdjamaa
