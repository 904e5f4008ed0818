/- What a run is: registers, slots, memory, inputs; an instruction's step; a block; a program; told by plain functions. No condition. -/
import Derived.Test.YtffnkbicbfjnpaaRTot
namespace Go.Proofs.Ytffnkbicbfjnpaa
open Go.Proofs.YtffnkbicbfjnpaaW.PrintWords Go.Proofs.Ytffnkbicbfjnpaa.PRunFuel

/-- A machine. -/
structure Mc where
  r : Int → Int
  slots : List Int
  mem : List Int
  inp : List Int
  trace : List Int
  steps : Nat
/-- How a run ended. -/
structure Out where
  fin : Int
  val : Int
  trace : List Int
  steps : Nat
def updF (r : Int → Int) (d v : Int) : Int → Int := fun x => if d = x then v else r x
def Mc.set (m : Mc) (d v : Int) : Mc := { m with r := updF m.r d v }
def stepM (x : S38) (m : Mc) : Option Mc :=
  if x.f0 = 0 then some (m.set x.f2 x.f5)
  else if x.f0 = 1 then some (m.set x.f2 (m.r x.f3))
  else if x.f0 = 2 then (if (doF x.f1 (m.r x.f3) (m.r x.f4)).2 = true then some (m.set x.f2 (doF x.f1 (m.r x.f3) (m.r x.f4)).1) else none)
  else if x.f0 = 3 then (match m.inp with | [] => none | v :: t => some { m with r := updF m.r x.f2 v, inp := t })
  else if x.f0 = 4 then some { m with trace := m.trace ++ [m.r x.f3] }
  else if x.f0 = 5 then some (m.set x.f2 (m.slots.getD x.f6.toNat 0))
  else if x.f0 = 6 then some { m with slots := m.slots.set x.f6.toNat (m.r x.f3) }
  else if x.f0 = 7 then (if 0 ≤ m.r x.f3 ∧ m.r x.f3 < 64 then some (m.set x.f2 (m.mem.getD (m.r x.f3).toNat 0)) else none)
  else if x.f0 = 8 then (if 0 ≤ m.r x.f3 ∧ m.r x.f3 < 64 then some { m with mem := m.mem.set (m.r x.f3).toNat (m.r x.f4) } else none)
  else some m
/-- A phi's value, by where one comes from. -/
def phiVal (r : Int → Int) (from_ : Int) (f : S147) : Int := if from_ ∈ f.f1 then r (f.f2.getD (f.f1.idxOf from_) 0) else 0
def enterR (r : Int → Int) (from_ : Int) (fs : List S147) : Int → Int := (fs.map fun f => (f.f0, phiVal r from_ f)).foldl (fun r p => updF r p.1 p.2) r
def Mc.spent (m : Mc) : Out := ⟨2, 0, m.trace, m.steps⟩
def Mc.trapped (m : Mc) : Out := ⟨1, 0, m.trace, m.steps⟩
def Mc.tick (m : Mc) : Mc := { m with steps := m.steps + 1 }
/-- A block's instructions. -/
def runI (fuel : Nat) : List S38 → Mc → Out ⊕ Mc
  | [], m => .inr m
  | x :: xs, m => if fuel ≤ m.steps then .inl m.spent else
    match stepM x m.tick with
    | none => .inl m.tick.trapped
    | some m' => runI fuel xs m'
/-- Where a label's block stands. -/
def atG : List S31 → Nat → (Int → Nat) → Int → Nat
  | [], _, f => f
  | b :: p, i, f => atG p (i + 1) (fun x => if b.f0 = x then i else f x)
def atF (p : List S31) : Int → Nat := atG p 0 (fun _ => 0)
def runB (p : List S31) (fuel : Nat) : Nat → Nat → Int → Mc → Out
  | 0, _, _, m => m.spent
  | g + 1, i, from_, m =>
    match runI fuel (rd_T31 p i).f2 { m with r := enterR m.r from_ (rd_T31 p i).f1 } with
    | .inl o => o
    | .inr m => if fuel ≤ m.steps then m.spent else
      if (rd_T31 p i).f3.f0 = 0 then runB p fuel g (atF p (rd_T31 p i).f3.f2) (rd_T31 p i).f0 m.tick
      else if (rd_T31 p i).f3.f0 = 1 then runB p fuel g (if m.r (rd_T31 p i).f3.f1 ≠ 0 then atF p (rd_T31 p i).f3.f2 else atF p (rd_T31 p i).f3.f3) (rd_T31 p i).f0 m.tick
      else if (rd_T31 p i).f3.f0 = 2 then ⟨0, m.r (rd_T31 p i).f3.f1, m.trace, m.steps + 1⟩
      else m.tick.trapped
def mc0 (inp : List Int) : Mc := ⟨fun _ => 0, List.replicate 16 0, List.replicate 64 0, inp, [], 0⟩
/-- May a phi, an end, a program be one? -/
def okPhi (labels : List Int) (f : S147) : Prop :=
  f.f1.length = f.f2.length ∧ (0 ≤ f.f0 ∧ f.f0 < 100000) ∧ ∀ i, i < f.f1.length → rd f.f1 i ∈ labels ∧ (0 < i → rd f.f1 ((i : Int) - 1) < rd f.f1 i) ∧ (0 ≤ rd f.f2 i ∧ rd f.f2 i < 100000)
def okL (labels : List Int) (l : S29) : Prop := l.f0 < 4 ∧ l = onlyL l ∧ (0 ≤ l.f1 ∧ l.f1 < 100000) ∧ ∀ n ∈ labelsL l, n ∈ labels
def okB (labels : List Int) (b : S31) : Prop := (∀ f ∈ b.f1, okPhi labels f) ∧ (∀ x ∈ b.f2, okI x) ∧ okL labels b.f3
structure okP (p : List S31) : Prop where
  one : 1 ≤ p.length
  most : p.length ≤ 400
  count : countP p ≤ 4000
  range : ∀ b ∈ p, 0 ≤ b.f0 ∧ b.f0 < 100000
  nodup : (p.map S31.f0).Nodup
  blocks : ∀ b ∈ p, okB (p.map S31.f0) b
open Classical in
noncomputable def runP (p : List S31) (inp : List Int) (fuel : Nat) : Out :=
  if okP p then runB p (min fuel 1048576) (min fuel 1048576 + 1) 0 (-1) (mc0 inp) else ⟨1, 0, [], 0⟩

theorem atG_snoc (p : List S31) (b : S31) : ∀ (i : Nat) (f : Int → Nat), atG (p ++ [b]) i f = fun x => if b.f0 = x then i + p.length else atG p i f x := by
  induction p with
  | nil => intro i f; rfl
  | cons a p ih =>
    intro i f
    simp only [List.cons_append, atG, ih, List.length_cons]
    funext x
    rw [show i + 1 + p.length = i + (p.length + 1) by omega]
theorem atF_snoc (p : List S31) (b : S31) : atF (p ++ [b]) = fun x => if b.f0 = x then p.length else atF p x := by
  unfold atF
  rw [atG_snoc]
  funext x
  rw [Nat.zero_add]
theorem atF_lt (p : List S31) (h : 1 ≤ p.length) (x : Int) : atF p x < p.length := by
  have key : ∀ (q : List S31) (i : Nat) (f : Int → Nat) (n : Nat), (∀ y, f y < n) → i + q.length ≤ n → atG q i f x < n := by
    intro q
    induction q with
    | nil => intro i f n h1 _; exact h1 x
    | cons a q ih =>
      intro i f n h1 h2
      simp only [List.length_cons] at h2
      simp only [atG]
      refine ih (i + 1) _ n (fun y => ?_) (by omega)
      split
      · omega
      · exact h1 y
  exact key p 0 _ _ (fun _ => by omega) (by omega)
theorem stepM_steps {x : S38} {m m' : Mc} (h : stepM x m = some m') : m'.steps = m.steps ∧ m'.slots.length = m.slots.length ∧ m'.mem.length = m.mem.length ∧ (m'.trace.length ≤ m.trace.length + 1) := by
  unfold stepM at h
  repeat' (split at h)
  all_goals first | (cases h; done) | (simp only [Option.some.injEq] at h; subst h; simp [Mc.set])
end Go.Proofs.Ytffnkbicbfjnpaa
