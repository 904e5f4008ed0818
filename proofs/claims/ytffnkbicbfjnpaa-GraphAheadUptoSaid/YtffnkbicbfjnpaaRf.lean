/- A range over a function, for whatever invariants: the statement out of its iterator's contract and its body's walk. Conditions: the loop is an outermost one; the body keeps the loop's two blocks. -/
import Derived.RangeFuncNested
import Derived.RangeFuncBound
import Derived.OwnWalkIn
import Derived.Test.YtffnkbicbfjnpaaMem
namespace Go.Proofs.Ytffnkbicbfjnpaa
open Go.RowKit
variable {F : Fence} {n : Nat} {P : Program}

theorem Only.putObj (W : World) (r : Nat) (o : Obj) : Only (fun k => k = r) W (W.putObj r o) :=
  ⟨rfl, rfl, rfl, by simp, fun _ _ hn => World.putObj_heap_other hn⟩

/-- The loop's record. -/
def rfRec (fn : FuncId) (tmps : Array Value) (ps : Array Tmp) (assign body : Code) (D : Nat) (st : LoopState) (pe : Option Code) : Loop :=
  { state := st, pending := pe, fn, tmps, params := ps, assign, body, defers := D }

/-- What a body's way out owes: the loop's two blocks lie as they lay; the invariant. -/
def rfPost (D : Nat) (I : World → Prop) (Ix : Code → World → Prop) (W : World) : Exit → Act → World → Prop
  | .normal, _, W' => W'.heap[D]? = W.heap[D]? ∧ W'.heap[D + 1]? = W.heap[D + 1]? ∧ I W'
  | .ret, _, W' => W'.heap[D]? = W.heap[D]? ∧ W'.heap[D + 1]? = W.heap[D + 1]? ∧ Ix .ret W'
  | .exit id, _, W' => W'.heap[D]? = W.heap[D]? ∧ W'.heap[D + 1]? = W.heap[D + 1]? ∧ Ix (.exit id) W'
  | .goto t, _, W' => W'.heap[D]? = W.heap[D]? ∧ W'.heap[D + 1]? = W.heap[D + 1]? ∧ Ix (.goto t) W'
  | .panic _, _, _ => False
  | .outgrown, _, _ => False

/-- ONE ROUND, out of the walks of the assignments and of the body. -/
theorem yield_rf {fn : FuncId} {tmps : Array Value} {ps : Array Tmp} {assign body : Code} {D : Nat} {W : World} {args : Array Value} (hF : F.fn fn) (hps : args.size = ps.size)
    (hk : W.heap[D]? = some (.deferred (some []))) (hl : W.heap[D + 1]? = some (.loop (rfRec fn tmps ps assign body D .ready none)))
    (I0 I1 : World → Prop) (Ix : Code → World → Prop) (hI0 : ∀ A B, I0 A → Only (fun j => j = D + 1) A B → I0 B) (hI1 : ∀ A B, I1 A → Only (fun j => j = D + 1) A B → I1 B) (hIx : ∀ c A B, Ix c A → Only (fun j => j = D + 1) A B → Ix c B) (h0 : I0 W)
    (Ax : Act → World → Prop) (hAx : ∀ a' A B, Ax a' A → Only (fun j => j = D + 1) A B → Ax a' B)
    (hassign : ∀ (K : Act → World → Prop), (∀ a' W', Only (fun _ => False) W W' → Ax a' W' → K a' W') →
      assign.wpIn (F.inRound (D + 1)) n P (Exit.then K (fun _ _ _ => False)) { tmps := (ps.zip args).foldl (fun t (p, v) => t.setIfInBounds p v) tmps, defers := [] } W)
    (hbody : ∀ (a' : Act) (W' : World), I0 W' → Ax a' W' → W'.heap[D]? = some (.deferred (some [])) → (∃ r, W'.heap[D + 1]? = some (.loop r)) → body.wpIn (F.inRound (D + 1)) n P (rfPost D I1 Ix W') a' W') :
    YieldAt F n P (D + 1) args W fun e W' =>
      (e = .returned (.bool true) ∧ I1 W' ∧ W'.heap[D]? = some (.deferred (some [])) ∧ W'.heap[D + 1]? = some (.loop (rfRec fn tmps ps assign body D .ready none))) ∨
      (e = .returned (.bool false) ∧ ∃ c, Ix c W' ∧ W'.heap[D]? = some (.deferred (some [])) ∧ W'.heap[D + 1]? = some (.loop (rfRec fn tmps ps assign body D .done (some c)))) := by
  refine ⟨fn, _, assign, body, run_yield hl hps, roundIn_of_wpIn hF (hassign _ ?_)⟩
  intro a' Wa hoa hax
  have hlW : D + 1 < W.heap.size := (Array.getElem?_eq_some_iff.1 hl).1
  have hla := (hoa.block (D + 1) hlW id).trans hl
  have hka := (hoa.block D (by omega) id).trans hk
  have hlt : D + 1 < Wa.heap.size := (Array.getElem?_eq_some_iff.1 hla).1
  have hia := hI0 _ _ h0 (hoa.mono (fun _ _ h => h.elim))
  have hob := Only.putObj Wa (D + 1) (.loop { rfRec fn tmps ps assign body D .ready none with state := .busy })
  refine ⟨_, run_beginRound hla rfl, ?_⟩
  have hl2 : (Wa.putObj (D + 1) (.loop { rfRec fn tmps ps assign body D .ready none with state := .busy })).heap[D + 1]? = some (.loop { rfRec fn tmps ps assign body D .ready none with state := .busy }) := World.putObj_heap_same hlt
  have hk2 : (Wa.putObj (D + 1) (.loop { rfRec fn tmps ps assign body D .ready none with state := .busy })).heap[D]? = some (.deferred (some [])) := (World.putObj_heap_other (by omega)).trans hka
  refine wpIn_mono (hbody a' _ (hI0 _ _ hia hob) (hAx _ _ _ hax hob) hk2 ⟨_, hl2⟩) ?_
  have fin : ∀ (jump : Option Code) (W3 : World), W3.heap[D]? = some (.deferred (some [])) → W3.heap[D + 1]? = some (.loop { rfRec fn tmps ps assign body D .ready none with state := .busy }) →
      (Instr.endRound (D + 1) jump).run P W3 = .ok (.bool jump.isNone) (W3.putObj (D + 1) (.loop (rfRec fn tmps ps assign body D (if jump.isNone then .ready else .done) jump))) ∧
      (W3.putObj (D + 1) (.loop (rfRec fn tmps ps assign body D (if jump.isNone then .ready else .done) jump))).heap[D]? = some (.deferred (some [])) ∧
      (W3.putObj (D + 1) (.loop (rfRec fn tmps ps assign body D (if jump.isNone then .ready else .done) jump))).heap[D + 1]? = some (.loop (rfRec fn tmps ps assign body D (if jump.isNone then .ready else .done) jump)) := fun jump W3 h1 h2 =>
    ⟨run_endRound jump h2, (World.putObj_heap_other (by omega)).trans h1, World.putObj_heap_same (Array.getElem?_eq_some_iff.1 h2).1⟩
  rintro e a3 W3 hp
  cases e with
  | normal =>
    obtain ⟨hd3, hl3, hi3⟩ := hp
    obtain ⟨hr, hk4, hl4⟩ := fin none W3 (hd3.trans hk2) (hl3.trans hl2)
    exact ⟨_, _, hr, .inl ⟨rfl, hI1 _ _ hi3 (Only.putObj _ _ _), hk4, hl4⟩⟩
  | ret =>
    obtain ⟨hd3, hl3, hi3⟩ := hp
    obtain ⟨hr, hk4, hl4⟩ := fin (some .ret) W3 (hd3.trans hk2) (hl3.trans hl2)
    exact ⟨_, _, hr, .inr ⟨rfl, .ret, hIx _ _ _ hi3 (Only.putObj _ _ _), hk4, hl4⟩⟩
  | exit id =>
    obtain ⟨hd3, hl3, hi3⟩ := hp
    obtain ⟨hr, hk4, hl4⟩ := fin (some (.exit id)) W3 (hd3.trans hk2) (hl3.trans hl2)
    exact ⟨_, _, hr, .inr ⟨rfl, .exit id, hIx _ _ _ hi3 (Only.putObj _ _ _), hk4, hl4⟩⟩
  | goto t =>
    obtain ⟨hd3, hl3, hi3⟩ := hp
    obtain ⟨hr, hk4, hl4⟩ := fin (some (.goto t)) W3 (hd3.trans hk2) (hl3.trans hl2)
    exact ⟨_, _, hr, .inr ⟨rfl, .goto t, hIx _ _ _ hi3 (Only.putObj _ _ _), hk4, hl4⟩⟩
  | panic ch => exact hp.elim
  | outgrown => exact hp.elim

/-- THE STATEMENT, out of the call of its iterator. -/
theorem wpIn_rf {g : Operand} {ps : Array Tmp} {assign body : Code} {Q : Exit → Act → World → Prop} {a : Act} {w : World}
    (hro : F.round = none) (h1 : 1 ≤ n) {gf : Nat} {lb : Array Value} (hg : a.eval g = .func (.func gf) #[] lb) (hFg : F.fn gf) (eg : ∀ args w, (callFunc gf args).run P w = .ok (.enter gf args) w)
    (h : ∀ (fn : FuncId) (W1 : World), F.fn fn → Only (fun _ => False) w W1 → W1.heap[w.heap.size]? = some (.deferred (some [])) → W1.heap[w.heap.size + 1]? = some (.loop (rfRec fn a.tmps ps assign body w.heap.size .ready none)) →
      CallsIn F (n - 1) P gf (#[.func (.yield (w.heap.size + 1)) #[] #[]] ++ lb) W1 fun e W2 => (∃ v, e = .returned v) ∧ ∃ st jump, st ≠ LoopState.busy ∧
        W2.heap[w.heap.size]? = some (.deferred (some [])) ∧ W2.heap[w.heap.size + 1]? = some (.loop (rfRec fn a.tmps ps assign body w.heap.size st jump)) ∧
        ∀ W3, Only (fun k => k = w.heap.size + 1) W2 W3 → W3.heap[w.heap.size]? = some (.deferred (some [])) →
          (match jump with
           | none => Q .normal { a with defers := { target := .collected w.heap.size, args := #[] } :: a.defers } W3
           | some c => c.wpIn F n P Q { a with defers := { target := .collected w.heap.size, args := #[] } :: a.defers } W3)) :
    (Code.rangeFunc g ps assign body).wpIn F n P Q a w := by
  refine wpIn_rangeFunc ?_
  intro fn hfn
  rw [hro]
  obtain ⟨W1, hW1⟩ : ∃ W1, (w.alloc (.deferred (some []))).alloc (.loop (rfRec fn a.tmps ps assign body w.heap.size .ready none)) = W1 := ⟨_, rfl⟩
  have hL1 : W1.heap[w.heap.size + 1]? = some (.loop (rfRec fn a.tmps ps assign body w.heap.size .ready none)) := by
    rw [← hW1]; have := World.alloc_heap_new (w.alloc (.deferred (some []))) (.loop (rfRec fn a.tmps ps assign body w.heap.size .ready none)); rwa [World.size_alloc] at this
  have hK1 : W1.heap[w.heap.size]? = some (.deferred (some [])) := by
    rw [← hW1]; exact (Below.heap_alloc _ _ _ (by simp)).trans (World.alloc_heap_new w _)
  have hO1 : Only (fun _ => False) w W1 := by
    rw [← hW1]; exact (Only.alloc _ w _).trans (Only.alloc (fun _ => False) _ _) (fun _ _ => id)
  refine ⟨w.heap.size + 1, [{ target := .collected w.heap.size, args := #[] }], W1, { target := .fn (.func gf) lb, args := #[.func (.yield (w.heap.size + 1)) #[] #[]] }, W1, gf,
    #[.func (.yield (w.heap.size + 1)) #[] #[]] ++ lb, W1, ?_, ?_, ?_, ?_, fun _ => h1, ?_⟩
  · rw [← hW1]; exact run_enterLoop_outer _ _ _ _ _
  · simp only [resolve, hg]
    simp [go_sem]
  · intro f' hf'; simp [Target.leads] at hf'; subst hf'; exact hFg
  · simp [invoke, go_sem, eg]
  · refine (h fn W1 hfn hO1 hK1 hL1).mono ?_
    rintro e W2 ⟨⟨v, rfl⟩, st, jump, hst, hk, hl, hQ⟩
    exact ⟨jump, _, run_endLoop hl hst, hQ _ (Only.putObj _ _ _) ((World.putObj_heap_other (by omega)).trans hk)⟩

/-- THE STATEMENT over an iterator that takes N steps: 'encs k' comes at step k; 'Rd': what the iterator reads between two rounds. -/
theorem wpIn_rf_steps {g : Operand} {ps : Array Tmp} {assign body : Code} {Q : Exit → Act → World → Prop} {a : Act} {w : World}
    (hro : F.round = none) (h1 : 1 ≤ n) {gf : Nat} {lb : Array Value} (hg : a.eval g = .func (.func gf) #[] lb) (hFg : F.fn gf) (eg : ∀ args w, (callFunc gf args).run P w = .ok (.enter gf args) w)
    {encs : Nat → Array Value} {N : Nat} (hps : ∀ k, (encs k).size = ps.size) {Rd : World → Prop}
    (hseq : ∀ (J Jx : Nat → World → Prop), (∀ k W, J k W → Rd W) →
      (∀ k W, k < N → J k W → YieldAt F (n - 1 - 1) P (w.heap.size + 1) (encs k) W fun e W' => (e = .returned (.bool true) ∧ J (k + 1) W') ∨ (e = .returned (.bool false) ∧ Jx (k + 1) W')) →
      ∀ W, J 0 W → CallsIn F (n - 1) P gf (#[.func (.yield (w.heap.size + 1)) #[] #[]] ++ lb) W fun e W' => (∃ v, e = .returned v) ∧ (J N W' ∨ ∃ k, Jx k W'))
    (I : Nat → World → Prop) (Ix : Code → Nat → World → Prop) (hRd : ∀ k W, I k W → Rd W)
    (hI : ∀ k A B, I k A → Only (fun j => j = w.heap.size + 1) A B → I k B) (hIx : ∀ c k A B, Ix c k A → Only (fun j => j = w.heap.size + 1) A B → Ix c k B)
    (h0 : ∀ W, Only (fun _ => False) w W → w.heap.size + 1 < W.heap.size → I 0 W)
    (Ax : Nat → Act → World → Prop) (hAx : ∀ k a' A B, Ax k a' A → Only (fun j => j = w.heap.size + 1) A B → Ax k a' B)
    (hassign : ∀ (k : Nat) (W : World) (K : Act → World → Prop), k < N → I k W → w.heap.size + 1 < W.heap.size → (∀ a' W', Only (fun _ => False) W W' → Ax k a' W' → K a' W') →
      assign.wpIn (F.inRound (w.heap.size + 1)) (n - 1 - 1) P (Exit.then K (fun _ _ _ => False)) { tmps := (ps.zip (encs k)).foldl (fun t (p, v) => t.setIfInBounds p v) a.tmps, defers := [] } W)
    (hbody : ∀ (k : Nat) (a' : Act) (W : World), k < N → I k W → Ax k a' W → W.heap[w.heap.size]? = some (.deferred (some [])) → (∃ r, W.heap[w.heap.size + 1]? = some (.loop r)) →
      body.wpIn (F.inRound (w.heap.size + 1)) (n - 1 - 1) P (rfPost w.heap.size (I (k + 1)) (fun c => Ix c (k + 1)) W) a' W)
    (hdone : ∀ W, I N W → W.heap[w.heap.size]? = some (.deferred (some [])) → Q .normal { a with defers := { target := .collected w.heap.size, args := #[] } :: a.defers } W)
    (hstop : ∀ c k W, Ix c k W → W.heap[w.heap.size]? = some (.deferred (some [])) → c.wpIn F n P Q { a with defers := { target := .collected w.heap.size, args := #[] } :: a.defers } W) :
    (Code.rangeFunc g ps assign body).wpIn F n P Q a w := by
  refine wpIn_rf hro h1 hg hFg eg ?_
  intro fn W1 hfn hO hk hl
  refine (hseq (fun k W => I k W ∧ W.heap[w.heap.size]? = some (.deferred (some [])) ∧ W.heap[w.heap.size + 1]? = some (.loop (rfRec fn a.tmps ps assign body w.heap.size .ready none)))
    (fun k W => ∃ c, Ix c k W ∧ W.heap[w.heap.size]? = some (.deferred (some [])) ∧ W.heap[w.heap.size + 1]? = some (.loop (rfRec fn a.tmps ps assign body w.heap.size .done (some c))))
    (fun k W h => hRd k W h.1) ?_ W1 ⟨h0 W1 hO (Array.getElem?_eq_some_iff.1 hl).1, hk, hl⟩).mono ?_
  · rintro k W hkN ⟨hi, hk', hl'⟩
    exact yield_rf hfn (hps k) hk' hl' (I k) (I (k + 1)) (fun c => Ix c (k + 1)) (hI k) (hI (k + 1)) (fun c => hIx c (k + 1)) hi (Ax k) (hAx k)
      (fun K hK => hassign k W K hkN hi (Array.getElem?_eq_some_iff.1 hl').1 hK) (fun a' W' h1 h2 h3 h4 => hbody k a' W' hkN h1 h2 h3 h4)
  · rintro e W2 ⟨hv, (⟨hi, hk', hl'⟩ | ⟨k, c, hx, hk', hl'⟩)⟩
    · exact ⟨hv, .ready, none, by simp, hk', hl', fun W3 hO3 hk3 => hdone W3 (hI _ _ _ hi hO3) hk3⟩
    · exact ⟨hv, .done, some c, by simp, hk', hl', fun W3 hO3 hk3 => hstop c k W3 (hIx _ _ _ _ hx hO3) hk3⟩

/-- An append whose run is known, in a fenced walk. -/
theorem wpListIn_append_run (w : World) {ops : Array Oper} {rest : List Oper} {o : Oper} {a : Act} {Q : Exit → Act → World → Prop} (hg : o.guard = none) (s x : Operand) (t tn : TypeId)
    (hop : o.op = .call { callee := .builtin .append, args := #[s, x], argTypes := #[t, tn] }) (vs vx : Value) (hs : a.eval s = vs) (hx : a.eval x = vx)
    (v' : Value) (w' : World) (hrun : (Builtin.append_ #[t, tn] o.type #[vs, vx]).run P w = .ok v' w') (h : wpListIn F n P ops Q rest (a.put o.dst v') w') : wpListIn F n P ops Q (o :: rest) a w := by
  refine wpListIn_plain hg fun K hK' => ?_
  unfold Oper.wpIn
  refine ⟨?_, ?_⟩
  · simp [Oper.about, hop, resolve, Target.leads, Sem.run_pure]
  · rw [Oper.semAt_plain F _ _ (by rw [hop]; intro c hc'; cases hc')]
    simp [execOp, hop, resolve, invoke, builtin, hs, hx, hrun, Result.andThen]
    exact hK' _ _ h
end Go.Proofs.Ytffnkbicbfjnpaa
