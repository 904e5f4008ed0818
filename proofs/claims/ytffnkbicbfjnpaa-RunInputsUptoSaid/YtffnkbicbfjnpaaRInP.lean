/- What the program of RunInputs does: each input is put out twice; then it traps. Conditions: the address is in memory, the slot is one. -/
import Derived.Test.YtffnkbicbfjnpaaRLaws
namespace Go.Proofs.Ytffnkbicbfjnpaa
open Go.Proofs.Ytffnkbicbfjnpaa.PRunFuel

def inI (k : Int) : List S38 := [⟨3, 0, 1, 0, 0, 0, 0⟩, ⟨8, 0, 0, 0, 1, 0, 0⟩, ⟨6, 0, 0, 1, 0, 0, k⟩, ⟨7, 0, 2, 0, 0, 0, 0⟩, ⟨5, 0, 3, 0, 0, 0, k⟩, ⟨4, 0, 0, 2, 0, 0, 0⟩, ⟨4, 0, 0, 3, 0, 0, 0⟩]
def inP (a k : Int) : List S31 := [⟨0, [], [⟨0, 0, 0, 0, 0, a, 0⟩], ⟨0, 0, 1, 0⟩⟩, ⟨1, [], inI k, ⟨0, 0, 1, 0⟩⟩]
def twice (l : List Int) : List Int := l.flatMap fun n => [n, n]
theorem twice_len (l : List Int) : (twice l).length = 2 * l.length := by
  induction l with
  | nil => rfl
  | cons n l ih => simp only [twice, List.flatMap_cons, List.length_append, List.length_cons, List.length_nil] at *; omega
theorem twice_at (l : List Int) : ∀ (i : Nat) (n : Int), l[i]? = some n → (twice l)[2 * i]? = some n ∧ (twice l)[2 * i + 1]? = some n := by
  induction l with
  | nil => intro i n h; simp at h
  | cons m l ih =>
    intro i n h
    cases i with
    | zero => simp at h; subst h; exact ⟨rfl, rfl⟩
    | succ i =>
      have := ih i n (by simpa using h)
      have e : twice (m :: l) = m :: m :: twice l := rfl
      rw [e, show 2 * (i + 1) = 2 * i + 1 + 1 by omega]
      simpa using this
theorem inP_ok (a k : Int) (hk : 0 ≤ k ∧ k < 16) : okP (inP a k) := by
  refine ⟨by simp [inP], by simp [inP], by simp [inP, inI, countP], fun b hb => ?_, ?_, fun b hb => ?_⟩
  · simp only [inP, List.mem_cons, List.not_mem_nil, or_false] at hb
    rcases hb with rfl | rfl <;> (dsimp only; decide)
  · show ([0, 1] : List Int).Nodup
    decide
  · have hlab : (inP a k).map S31.f0 = [0, 1] := rfl
    rw [hlab]
    simp only [inP, List.mem_cons, List.not_mem_nil, or_false] at hb
    rcases hb with rfl | rfl
    · refine ⟨fun f hf => (by cases hf), fun x hx => ?_, ⟨by dsimp only; decide, by rfl, by dsimp only; decide, fun n hn => ?_⟩⟩
      · simp only [List.mem_singleton] at hx; subst hx
        exact ⟨by dsimp only; decide, fun h => absurd h (by dsimp only; decide), by rfl, by dsimp only; decide, by dsimp only; decide, by dsimp only; decide, by dsimp only; decide⟩
      · simp [labelsL] at hn; subst hn; decide
    · refine ⟨fun f hf => (by cases hf), fun x hx => ?_, ⟨by dsimp only; decide, by rfl, by dsimp only; decide, fun n hn => ?_⟩⟩
      · simp only [inI, List.mem_cons, List.not_mem_nil, or_false] at hx
        rcases hx with rfl | rfl | rfl | rfl | rfl | rfl | rfl
        all_goals exact ⟨by dsimp only; decide, fun h => absurd h (by dsimp only; decide), by rfl, by dsimp only; decide, by dsimp only; decide, by dsimp only; decide, by first | exact hk | (dsimp only; decide)⟩
      · simp [labelsL] at hn; subst hn; decide
theorem runI_cons {F : Nat} {x : S38} {xs : List S38} {m m' : Mc} (h : m.steps < F) (hs : stepM x m.tick = some m') : runI F (x :: xs) m = runI F xs m' := by
  rw [runI, if_neg (by omega), hs]
/-- A round. -/
theorem in_round (F : Nat) (k : Int) (hk : 0 ≤ k ∧ k < 16) (m : Mc) (n : Int) (rest : List Int) (hi : m.inp = n :: rest) (h0 : 0 ≤ m.r 0 ∧ m.r 0 < 64) (hs : m.slots.length = 16) (hm : m.mem.length = 64) (hF : m.steps + 7 ≤ F) :
    ∃ m', runI F (inI k) m = .inr m' ∧ m'.inp = rest ∧ m'.r 0 = m.r 0 ∧ m'.slots.length = 16 ∧ m'.mem.length = 64 ∧ m'.steps = m.steps + 7 ∧ m'.trace = m.trace ++ [n, n] := by
  have e1 : stepM ⟨3, 0, 1, 0, 0, 0, 0⟩ m.tick = some { m.tick with r := updF m.r 1 n, inp := rest } := by simp [stepM, Mc.tick, hi]
  refine ⟨_, (runI_cons (by omega) e1).trans ((runI_cons (by simp [Mc.tick]; omega) (show stepM ⟨8, 0, 0, 0, 1, 0, 0⟩ _ = some { m with r := updF m.r 1 n, inp := rest, mem := m.mem.set (m.r 0).toNat n, steps := m.steps + 2 } from ?_)).trans
    ((runI_cons (by simp; omega) (show stepM ⟨6, 0, 0, 1, 0, 0, k⟩ _ = some { m with r := updF m.r 1 n, inp := rest, mem := m.mem.set (m.r 0).toNat n, slots := m.slots.set k.toNat n, steps := m.steps + 3 } from ?_)).trans
    ((runI_cons (by simp; omega) (show stepM ⟨7, 0, 2, 0, 0, 0, 0⟩ _ = some { m with r := updF (updF m.r 1 n) 2 n, inp := rest, mem := m.mem.set (m.r 0).toNat n, slots := m.slots.set k.toNat n, steps := m.steps + 4 } from ?_)).trans
    ((runI_cons (by simp; omega) (show stepM ⟨5, 0, 3, 0, 0, 0, k⟩ _ = some { m with r := updF (updF (updF m.r 1 n) 2 n) 3 n, inp := rest, mem := m.mem.set (m.r 0).toNat n, slots := m.slots.set k.toNat n, steps := m.steps + 5 } from ?_)).trans
    ((runI_cons (by simp; omega) (show stepM ⟨4, 0, 0, 2, 0, 0, 0⟩ _ = some { m with r := updF (updF (updF m.r 1 n) 2 n) 3 n, inp := rest, mem := m.mem.set (m.r 0).toNat n, slots := m.slots.set k.toNat n, steps := m.steps + 6, trace := m.trace ++ [n] } from ?_)).trans
    ((runI_cons (by simp; omega) (show stepM ⟨4, 0, 0, 3, 0, 0, 0⟩ _ = some { m with r := updF (updF (updF m.r 1 n) 2 n) 3 n, inp := rest, mem := m.mem.set (m.r 0).toNat n, slots := m.slots.set k.toNat n, steps := m.steps + 7, trace := m.trace ++ [n, n] } from ?_)).trans rfl)))))), ?_⟩
  · simp [stepM, Mc.tick, updF, h0.1, h0.2]
  · simp [stepM, Mc.tick, updF]
  · have hl : (m.r 0).toNat < m.mem.length := by omega
    simp [stepM, Mc.tick, updF, Mc.set, h0.1, h0.2, List.getD_eq_getElem?_getD, hl]
  · have hl : k.toNat < m.slots.length := by omega
    simp [stepM, Mc.tick, Mc.set, List.getD_eq_getElem?_getD, hl]
  · simp [stepM, Mc.tick, updF]
  · simp [stepM, Mc.tick, updF]
  · exact ⟨rfl, by simp [updF], by simpa using hs, by simpa using hm, rfl, rfl⟩
theorem in_rounds (F : Nat) (a k : Int) (hk : 0 ≤ k ∧ k < 16) : ∀ (l : List Int) (g : Nat) (fr : Int) (m : Mc), m.inp = l → (0 ≤ m.r 0 ∧ m.r 0 < 64) → m.slots.length = 16 → m.mem.length = 64 → l.length < g → m.steps + 8 * l.length + 1 ≤ F →
    runB (inP a k) F g 1 fr m = ⟨1, 0, m.trace ++ twice l, m.steps + 8 * l.length + 1⟩
  | l, 0, fr, m, _, _, _, _, hg, _ => by omega
  | [], g + 1, fr, m, hi, h0, hs, hm, hg, hF => by
    rw [runB]
    have e : rd_T31 (inP a k) ((1 : Nat) : Int) = ⟨1, [], inI k, ⟨0, 0, 1, 0⟩⟩ := rfl
    have e' : runI F (inI k) { m with r := enterR m.r fr [] } = .inl m.tick.trapped := by
      simp only [List.length_nil] at hF
      unfold inI
      rw [runI, if_neg (by simp only; omega)]
      simp [stepM, Mc.tick, hi, enterR, Mc.trapped]
    rw [e, e']
    simp [Mc.trapped, Mc.tick, twice]
  | n :: l, g + 1, fr, m, hi, h0, hs, hm, hg, hF => by
    simp only [List.length_cons] at hg hF
    rw [runB]
    have e : rd_T31 (inP a k) ((1 : Nat) : Int) = ⟨1, [], inI k, ⟨0, 0, 1, 0⟩⟩ := rfl
    have hm0 : ({ m with r := enterR m.r fr [] } : Mc) = m := rfl
    obtain ⟨m', e1, e2, e3, e4, e5, e6, e7⟩ := in_round F k hk m n l hi h0 hs hm (by omega)
    rw [e, hm0, e1]
    simp only
    rw [if_neg (by omega), if_pos trivial]
    have ea : atF (inP a k) 1 = 1 := rfl
    rw [ea, in_rounds F a k hk l g 1 m'.tick (by simp [Mc.tick, e2]) (by simp [Mc.tick, e3, h0]) (by simp [Mc.tick, e4]) (by simp [Mc.tick, e5]) (by omega) (by simp [Mc.tick, e6]; omega)]
    simp [Mc.tick, e6, e7, twice]
    omega
theorem inP_run (a k : Int) (ha : 0 ≤ a ∧ a < 64) (hk : 0 ≤ k ∧ k < 16) (l : List Int) (hl : l.length ≤ 50) : runP (inP a k) l 1000 = ⟨1, 0, twice l, 2 + 8 * l.length + 1⟩ := by
  unfold runP
  rw [if_pos (inP_ok a k hk), show min 1000 1048576 = 1000 from rfl, runB]
  have e : rd_T31 (inP a k) ((0 : Nat) : Int) = ⟨0, [], [⟨0, 0, 0, 0, 0, a, 0⟩], ⟨0, 0, 1, 0⟩⟩ := rfl
  have hm0 : ({ mc0 l with r := enterR (mc0 l).r (-1) [] } : Mc) = mc0 l := rfl
  have e1 : runI 1000 [⟨0, 0, 0, 0, 0, a, 0⟩] (mc0 l) = .inr { mc0 l with r := updF (mc0 l).r 0 a, steps := 1 } := rfl
  rw [e, hm0, e1]
  simp only
  rw [if_neg (by decide), if_pos trivial]
  have ea : atF (inP a k) 1 = 1 := rfl
  rw [ea, in_rounds 1000 a k hk l 1000 0 _ rfl (by simp [Mc.tick, updF, ha]) rfl rfl (by omega) (by simp [Mc.tick]; omega)]
  simp [Mc.tick, mc0]
end Go.Proofs.Ytffnkbicbfjnpaa
