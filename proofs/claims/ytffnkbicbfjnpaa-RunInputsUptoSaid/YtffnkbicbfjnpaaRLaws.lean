/- Plain laws on runs: more fuel tells no other end; less tells a beginning of what is put out; no more is put out than there are steps. No condition. -/
import Derived.Test.YtffnkbicbfjnpaaRSem
namespace Go.Proofs.Ytffnkbicbfjnpaa
open Go.Proofs.Ytffnkbicbfjnpaa.PRunFuel

theorem stepM_ext {x : S38} {m m' : Mc} (h : stepM x m = some m') : m.trace <+: m'.trace := by
  unfold stepM at h
  repeat' (split at h)
  all_goals first | (cases h; done) | (simp only [Option.some.injEq] at h; subst h; simp [Mc.set])
theorem runI_ext (F : Nat) : ∀ (xs : List S38) (m : Mc), m.steps ≤ F → m.trace.length ≤ m.steps →
    (∀ o, runI F xs m = .inl o → m.trace <+: o.trace ∧ m.steps ≤ o.steps ∧ o.steps ≤ F ∧ o.trace.length ≤ o.steps ∧ o.val = 0 ∧ (o.fin = 1 ∨ o.fin = 2)) ∧ (∀ m', runI F xs m = .inr m' → m.trace <+: m'.trace ∧ m.steps ≤ m'.steps ∧ m'.steps ≤ F ∧ m'.trace.length ≤ m'.steps)
  | [], m, h1, h2 => ⟨fun o h => by simp [runI] at h, fun m' h => by simp only [runI, Sum.inr.injEq] at h; subst h; exact ⟨List.prefix_refl _, Nat.le_refl _, h1, h2⟩⟩
  | x :: xs, m, h1, h2 => by
    rw [runI]
    by_cases hF : F ≤ m.steps
    · rw [if_pos hF]
      refine ⟨fun o h => ?_, fun m' h => by simp at h⟩
      simp only [Sum.inl.injEq] at h; subst h
      exact ⟨List.prefix_refl _, Nat.le_refl _, h1, h2, rfl, .inr rfl⟩
    · rw [if_neg hF]
      cases hs : stepM x m.tick with
      | none =>
        refine ⟨fun o h => ?_, fun m' h => by simp at h⟩
        simp only [Sum.inl.injEq] at h; subst h
        exact ⟨List.prefix_refl _, by simp [Mc.trapped, Mc.tick], by simp [Mc.trapped, Mc.tick]; omega, by simp [Mc.trapped, Mc.tick]; omega, rfl, .inl rfl⟩
      | some m2 =>
        have e := stepM_steps hs
        have t := stepM_ext hs
        simp only [Mc.tick] at e t
        have ih := runI_ext F xs m2 (by omega) (by omega)
        exact ⟨fun o h => by obtain ⟨a, b, c, d, f, g⟩ := ih.1 o h; exact ⟨t.trans a, by omega, c, d, f, g⟩, fun m' h => by obtain ⟨a, b, c, d⟩ := ih.2 m' h; exact ⟨t.trans a, by omega, c, d⟩⟩
theorem enterR_nil (r : Int → Int) (fr : Int) (fs : List S147) (m : Mc) : ({ m with r := enterR r fr fs } : Mc).steps = m.steps ∧ ({ m with r := enterR r fr fs } : Mc).trace = m.trace := ⟨rfl, rfl⟩
theorem runB_ext (p : List S31) (F : Nat) : ∀ (g i : Nat) (fr : Int) (m : Mc), m.steps ≤ F → m.trace.length ≤ m.steps →
    m.trace <+: (runB p F g i fr m).trace ∧ m.steps ≤ (runB p F g i fr m).steps ∧ (runB p F g i fr m).steps ≤ F ∧ (runB p F g i fr m).trace.length ≤ (runB p F g i fr m).steps ∧ ((runB p F g i fr m).fin = 0 ∨ (runB p F g i fr m).val = 0)
  | 0, i, fr, m, h1, h2 => ⟨List.prefix_refl _, Nat.le_refl _, h1, h2, .inr rfl⟩
  | g + 1, i, fr, m, h1, h2 => by
    rw [runB]
    have h := runI_ext F (rd_T31 p i).f2 { m with r := enterR m.r fr (rd_T31 p i).f1 } h1 h2
    cases hr : runI F (rd_T31 p i).f2 { m with r := enterR m.r fr (rd_T31 p i).f1 } with
    | inl o => obtain ⟨a, b, c, d, f, _⟩ := h.1 o hr; exact ⟨a, b, c, d, .inr f⟩
    | inr m2 =>
      obtain ⟨a, b, c, d⟩ := h.2 m2 hr
      simp only at a b ⊢
      by_cases hF : F ≤ m2.steps
      · rw [if_pos hF]; exact ⟨a, b, c, d, .inr rfl⟩
      · rw [if_neg hF]
        have ht : m2.tick.steps = m2.steps + 1 ∧ m2.tick.trace = m2.trace := ⟨rfl, rfl⟩
        have ih : ∀ i fr, m.trace <+: (runB p F g i fr m2.tick).trace ∧ m.steps ≤ (runB p F g i fr m2.tick).steps ∧ (runB p F g i fr m2.tick).steps ≤ F ∧ (runB p F g i fr m2.tick).trace.length ≤ (runB p F g i fr m2.tick).steps ∧ ((runB p F g i fr m2.tick).fin = 0 ∨ (runB p F g i fr m2.tick).val = 0) := fun i fr => by
          obtain ⟨a', b', c', d', e'⟩ := runB_ext p F g i fr m2.tick (by omega) (by rw [ht.2]; omega)
          exact ⟨a.trans a', by omega, c', d', e'⟩
        split
        · exact ih _ _
        · split
          · exact ih _ _
          · split
            · exact ⟨a, by simp only; omega, by simp only; omega, by simp only; omega, .inl rfl⟩
            · exact ⟨a, by simp only [Mc.trapped, Mc.tick]; omega, by simp only [Mc.trapped, Mc.tick]; omega, by simp only [Mc.trapped, Mc.tick]; omega, .inr rfl⟩
/-- Two fuels. -/
theorem cmpI (n m : Nat) (hnm : n ≤ m) : ∀ (xs : List S38) (M : Mc), M.steps ≤ n →
    (∃ M', runI n xs M = .inr M' ∧ runI m xs M = .inr M' ∧ M'.steps ≤ n) ∨ (∃ o, runI n xs M = .inl o ∧ o.fin ≠ 2 ∧ runI m xs M = .inl o ∧ o.steps ≤ n) ∨
    (∃ M1 rest, runI n xs M = .inl M1.spent ∧ M1.steps = n ∧ runI m xs M = runI m rest M1 ∧ (M.trace.length ≤ M.steps → M1.trace.length ≤ M1.steps))
  | [], M, h => .inl ⟨M, rfl, rfl, h⟩
  | x :: xs, M, h => by
    by_cases hn : n ≤ M.steps
    · refine .inr (.inr ⟨M, x :: xs, ?_, by omega, rfl, id⟩)
      rw [runI, if_pos hn]
    · rw [runI, runI, if_neg hn, if_neg (by omega)]
      cases hs : stepM x M.tick with
      | none => exact .inr (.inl ⟨M.tick.trapped, rfl, by simp [Mc.trapped], rfl, by simp only [Mc.trapped, Mc.tick]; omega⟩)
      | some M2 =>
        have e := stepM_steps hs
        simp only [Mc.tick] at e
        rcases cmpI n m hnm xs M2 (by omega) with h' | h' | ⟨M1, rest, a, b, c, d⟩
        · exact .inl h'
        · exact .inr (.inl h')
        · exact .inr (.inr ⟨M1, rest, a, b, c, fun ht => d (by omega)⟩)
theorem cmpB (p : List S31) (n m : Nat) (hnm : n ≤ m) : ∀ (g g' i : Nat) (fr : Int) (M : Mc), M.steps ≤ n → M.trace.length ≤ M.steps → n + 1 ≤ g + M.steps → m + 1 ≤ g' + M.steps →
    ((runB p n g i fr M).fin ≠ 2 ∧ runB p m g' i fr M = runB p n g i fr M ∧ (runB p n g i fr M).steps ≤ n) ∨
    ((runB p n g i fr M).fin = 2 ∧ (runB p n g i fr M).val = 0 ∧ (runB p n g i fr M).steps = n ∧ (runB p n g i fr M).trace <+: (runB p m g' i fr M).trace ∧ n ≤ (runB p m g' i fr M).steps)
  | 0, g', i, fr, M, h1, _, h2, _ => by omega
  | g + 1, 0, i, fr, M, h1, _, _, h2 => by omega
  | g + 1, g' + 1, i, fr, M, h1, h4, h2, h3 => by
    rw [runB, runB]
    have hE1 := runI_ext m (rd_T31 p i).f2 { M with r := enterR M.r fr (rd_T31 p i).f1 } (by simp only; omega) h4
    have hE0 := runI_ext n (rd_T31 p i).f2 { M with r := enterR M.r fr (rd_T31 p i).f1 } (by simp only; omega) h4
    -- whatever follows in the longer run extends what stands at the spent step
    have tail : ∀ (xs : List S38) (M1 : Mc), M1.steps = n → M1.trace.length ≤ M1.steps → ∀ o, o = (match runI m xs M1 with
        | .inl o => o
        | .inr m2 => if m ≤ m2.steps then m2.spent else
          if (rd_T31 p i).f3.f0 = 0 then runB p m g' (atF p (rd_T31 p i).f3.f2) (rd_T31 p i).f0 m2.tick
          else if (rd_T31 p i).f3.f0 = 1 then runB p m g' (if m2.r (rd_T31 p i).f3.f1 ≠ 0 then atF p (rd_T31 p i).f3.f2 else atF p (rd_T31 p i).f3.f3) (rd_T31 p i).f0 m2.tick
          else if (rd_T31 p i).f3.f0 = 2 then ⟨0, m2.r (rd_T31 p i).f3.f1, m2.trace, m2.steps + 1⟩
          else m2.tick.trapped) → M1.trace <+: o.trace ∧ n ≤ o.steps := by
      intro xs M1 hs ht o ho
      have hx := runI_ext m xs M1 (by omega) ht
      cases hr : runI m xs M1 with
      | inl o' => rw [hr] at ho; simp only at ho; subst ho; obtain ⟨a, b, _⟩ := hx.1 _ hr; exact ⟨a, by omega⟩
      | inr m2 =>
        rw [hr] at ho
        simp only at ho
        obtain ⟨a, b, c, d⟩ := hx.2 _ hr
        by_cases hm : m ≤ m2.steps
        · rw [if_pos hm] at ho; subst ho; exact ⟨a, by simp only [Mc.spent]; omega⟩
        · rw [if_neg hm] at ho
          have key : ∀ i fr, M1.trace <+: (runB p m g' i fr m2.tick).trace ∧ n ≤ (runB p m g' i fr m2.tick).steps := fun i fr => by
            obtain ⟨a', b', _⟩ := runB_ext p m g' i fr m2.tick (by simp only [Mc.tick]; omega) (by simp only [Mc.tick]; omega)
            have e2 : m2.tick.steps = m2.steps + 1 := rfl
            exact ⟨a.trans a', by omega⟩
          split at ho
          · subst ho; exact key _ _
          · split at ho
            · subst ho; exact key _ _
            · split at ho
              · subst ho; exact ⟨a, by simp only; omega⟩
              · subst ho; exact ⟨a, by simp only [Mc.trapped, Mc.tick]; omega⟩
    rcases cmpI n m hnm (rd_T31 p i).f2 { M with r := enterR M.r fr (rd_T31 p i).f1 } h1 with ⟨M', ha, hb, hc⟩ | ⟨o, ha, hb, hc, hd⟩ | ⟨M1, rest, ha, hb, hc, hd⟩
    · obtain ⟨e1, e2, e3, e4⟩ := hE0.2 _ ha
      rw [ha, hb]
      simp only at e1 e2 ⊢
      by_cases hn : n ≤ M'.steps
      · rw [if_pos hn]
        refine .inr ⟨rfl, rfl, by simp only [Mc.spent]; omega, ?_⟩
        have := tail [] M' (by omega) e4 _ rfl
        simpa [runI, Mc.spent] using this
      · rw [if_neg hn, if_neg (show ¬ m ≤ M'.steps by omega)]
        have ht : M'.tick.steps = M'.steps + 1 ∧ M'.tick.trace = M'.trace := ⟨rfl, rfl⟩
        have ih := fun i fr => cmpB p n m hnm g g' i fr M'.tick (by omega) (by rw [ht.2]; omega) (by omega) (by omega)
        split
        · exact ih _ _
        · split
          · exact ih _ _
          · split
            · exact .inl ⟨by simp, rfl, by simp only; omega⟩
            · exact .inl ⟨by simp [Mc.trapped], rfl, by simp only [Mc.trapped, Mc.tick]; omega⟩
    · rw [ha, hc]
      exact .inl ⟨hb, rfl, hd⟩
    · rw [ha]
      refine .inr ⟨rfl, rfl, hb, ?_⟩
      rw [hc]
      have := tail rest M1 hb (hd h4) _ rfl
      exact this
theorem runP_ext (p : List S31) (inp : List Int) (F : Nat) (hF : F ≤ 1048576) : (runP p inp F).trace.length ≤ (runP p inp F).steps ∧ (runP p inp F).steps ≤ F ∧ ((runP p inp F).fin = 0 ∨ (runP p inp F).val = 0) := by
  unfold runP
  split
  · rw [Nat.min_eq_left hF]
    obtain ⟨_, _, a, b, c⟩ := runB_ext p F (F + 1) 0 (-1) (mc0 inp) (Nat.zero_le _) (Nat.le_refl _)
    exact ⟨b, a, c⟩
  · exact ⟨Nat.le_refl _, Nat.zero_le _, .inr rfl⟩
/-- RunFuel's law. -/
theorem runP_fuel (p : List S31) (inp : List Int) (n m : Nat) (hnm : n ≤ m) (hm : m ≤ 1048576) :
    ((runP p inp n).fin ≠ 2 ∧ runP p inp m = runP p inp n ∧ (runP p inp n).steps ≤ n) ∨
    ((runP p inp n).fin = 2 ∧ (runP p inp n).val = 0 ∧ (runP p inp n).steps = n ∧ (runP p inp n).trace <+: (runP p inp m).trace ∧ n ≤ (runP p inp m).steps) := by
  unfold runP
  split
  · rw [Nat.min_eq_left (by omega), Nat.min_eq_left hm]
    exact cmpB p n m hnm (n + 1) (m + 1) 0 (-1) (mc0 inp) (Nat.zero_le _) (Nat.le_refl _) (by simp) (by simp)
  · exact .inl ⟨by decide, rfl, Nat.zero_le _⟩
/-- A run that has ended ends so with whatever fuel above its steps. -/
theorem runP_again (p : List S31) (inp : List Int) (n k : Nat) (hn : n ≤ 1048576) (hk : k ≤ 1048576) (hf : (runP p inp n).fin ≠ 2) (hs : (runP p inp n).steps < k) : runP p inp k = runP p inp n := by
  rcases Nat.le_total n k with h | h
  · rcases runP_fuel p inp n k h hk with ⟨_, h2, _⟩ | ⟨h1, _⟩
    · exact h2
    · exact absurd h1 hf
  · rcases runP_fuel p inp k n h hn with ⟨_, h2, _⟩ | ⟨_, _, h3, _, h5⟩
    · exact h2.symm
    · omega
end Go.Proofs.Ytffnkbicbfjnpaa
