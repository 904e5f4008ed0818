/- Outcomes as values; the calls of Same, Equal, Light, Program; what a small program is like. Conditions: as each says. -/
import Derived.Test.YtffnkbicbfjnpaaRRunGood
import Derived.Test.YtffnkbicbfjnpaaRLaws
import Derived.Test.YtffnkbicbfjnpaaRProg
namespace Go.Proofs.Ytffnkbicbfjnpaa
open Go.RowKit Go.Proofs.YtffnkbicbfjnpaaW.PrintWords Go.Proofs.Ytffnkbicbfjnpaa.PRunFuel
open Go.Proofs.YtffnkbicbfjnpaaW.PrintMore
open Go.Proofs.YtffnkbicbfjnpaaW.PrintWords (ReadsInt rd Kd)
/-- A value that is an outcome. -/
def OutR (o : Out) (V : World) (v : Value) : Prop := ∃ A c, v = ov o (.slice A o.trace.length c) ∧ o.trace.length ≤ c ∧ (Kd.int .i64).C V A o.trace.length o.trace
theorem OutR.later {o : Out} {V V' : World} {v : Value} (h : OutR o V v) (hb : Below V.heap.size V V') : OutR o V' v := by
  obtain ⟨A, c, h1, h2, h3⟩ := h
  exact ⟨A, c, h1, h2, Kd.C_below h3 hb⟩
theorem OutR.drew {o : Out} {V : World} {v : Value} (h : OutR o V v) (n : Nat) : OutR o (V.drewN n) v := h
theorem out_of_post {o : Out} {W W' : World} {e : Ending} (h : RunPost o W e W') : ∃ v, e = .returned v ∧ OutR o W' v ∧ Below W.heap.size W W' := by
  obtain ⟨tv, rfl, h1, h2⟩ := h
  have h1' : W'.ownsRow W.heap.size 2 1 tv o.trace.length (encs (Value.int .i64) o.trace) := h1
  obtain ⟨A, c, rfl, hc, hr⟩ := own_reads_of_le (d := (0 : Int)) h1'
  exact ⟨_, rfl, ⟨A, c, rfl, hc, Kd.C_of_reads (h1 := fun _ => rfl) hr⟩, h2⟩
theorem same_calls (o1 o2 : Out) (v1 v2 : Value) (V : World) (h1 : OutR o1 V v1) (h2 : OutR o2 V v2) (hl : o1.trace.length ≤ 1099511627776) :
    Calls Try.prog 33 #[v1, v2] V fun e W' => e = .returned (.bool (decide (o1.fin = o2.fin ∧ o1.val = o2.val ∧ o1.trace = o2.trace))) ∧ Below V.heap.size V W' := by
  obtain ⟨A1, c1, rfl, k1, r1⟩ := h1
  obtain ⟨A2, c2, rfl, k2, r2⟩ := h2
  exact run_Same.calls (o1.trace.length + 1) o1.fin o1.val A1 c1 o1.trace o1.steps o2.fin o2.val A2 c2 o2.trace o2.steps _ V r1 k1 r2 k2 (same_some _ _ _ _ _ _ _ _ hl)
theorem equal_calls (l1 l2 : List Int) (A1 A2 : Option Addr) (c1 c2 : Nat) (V : World) (h1 : (Kd.int .i64).C V A1 l1.length l1) (k1 : l1.length ≤ c1) (h2 : (Kd.int .i64).C V A2 l2.length l2) (k2 : l2.length ≤ c2) (hl : l1.length ≤ 1099511627776) :
    Calls Try.prog 32 #[.slice A1 l1.length c1, .slice A2 l2.length c2] V fun e W' => e = .returned (.bool (decide (l1 = l2))) ∧ Below V.heap.size V W' :=
  (slices_Equal_int64_int64.calls (l1.length + 1) A1 c1 l1 A2 c2 l2 _ V h1 k1 h2 k2 (equal_some l1 l2 hl)).mono fun _ _ h => ⟨h.1, h.2.below⟩
theorem light_calls (s0 : Int) (bare : Bool) (bs : List S138) (A : Option Addr) (c : Nat) (V : World) (h1 : k138.C V A bs.length bs) (h2 : bs.length ≤ c) :
    Calls Try.prog 30 #[.agg #[.int .u8 s0, .bool bare, .slice A bs.length c]] V fun e W' => e = .returned (.bool (decide ((∀ b ∈ bs, b.f0.length ≤ 10) ∧ bs.length ≤ 8))) ∧ Below V.heap.size V W' := by
  obtain ⟨k, hk⟩ := small_light s0 bare bs h1.2.1
  exact refinerylaw03_Small_Light.calls k s0 bare A c bs _ V h1 h2 hk
/-- A program in memory. -/
def PrgR (p : List S31) (V : World) (v : Value) : Prop := ∃ A c, v = .agg #[.slice A p.length c] ∧ p.length ≤ c ∧ Kd.C k31 V A p.length p
theorem PrgR.later {p : List S31} {V V' : World} {v : Value} (h : PrgR p V v) (hb : Below V.heap.size V V') : PrgR p V' v := by
  obtain ⟨A, c, h1, h2, h3⟩ := h
  exact ⟨A, c, h1, h2, Kd.C_below h3 hb⟩
def smallP (s0 : Int) (bare : Bool) (bs : List S138) : List S31 := progP (regsN s0) (max bs.length 1) bare bs
theorem program_calls (s0 : Int) (h0 : 0 ≤ s0) (bare : Bool) (bs : List S138) (A : Option Addr) (c : Nat) (V : World) (h1 : k138.C V A bs.length bs) (h2 : bs.length ≤ c) (h8 : bs.length ≤ 8) (hbs : ∀ b ∈ bs, 0 ≤ b.f1 ∧ b.f0.length ≤ 10) :
    Calls Try.prog 31 #[.agg #[.int .u8 s0, .bool bare, .slice A bs.length c]] V fun e W' => (∃ v, e = .returned v ∧ PrgR (smallP s0 bare bs) W' v) ∧ Below V.heap.size V W' := by
  obtain ⟨k, hk⟩ := small_program s0 h0 bare bs h8 hbs
  refine (refinerylaw03_Small_Program.calls k s0 bare A c bs _ V h1 h2 hk).mono ?_
  rintro e W' ⟨v, rfl, hr, hb⟩
  obtain ⟨A', c', rfl, hc, hC⟩ := Kd.R_reads hr
  exact ⟨⟨_, rfl, A', c', rfl, hc, hC⟩, hb⟩
theorem countP_le (p : List S31) (h : ∀ b ∈ p, b.f2.length + b.f1.length ≤ 16) : countP p ≤ 17 * p.length := by
  induction p with
  | nil => exact Nat.le_refl _
  | cons b p ih =>
    have := h b (by simp)
    have := ih (fun b' hb' => h b' (by simp [hb']))
    simp only [countP, List.length_cons]
    omega
theorem smallP_len (s0 : Int) (bare : Bool) (bs : List S138) : (smallP s0 bare bs).length = max bs.length 1 := by simp [smallP, progP]
theorem smallP_mem {s0 : Int} {bare : Bool} {bs : List S138} (hbs : ∀ b ∈ bs, b.f0.length ≤ 10) {b : S31} (h : b ∈ smallP s0 bare bs) : b.f1 = [] ∧ b.f2.length ≤ 16 := by
  unfold smallP progP at h
  obtain ⟨i, hi, rfl⟩ := List.mem_map.1 h
  refine ⟨rfl, ?_⟩
  have hr : regsN s0 ≤ 6 := by unfold regsN; have := Int.tmod_lt_of_pos s0 (show (0:Int) < 6 by omega); omega
  show (instrsI _ _ _ _).length ≤ 16
  unfold instrsI
  rw [List.length_append]
  have e1 : (if i = 0 ∧ bare = false then (List.range (regsN s0)).map constI else []).length ≤ 6 := by split <;> simp <;> omega
  have e2 : (match bs[i]? with | some b => b.f0.map (lineI (regsN s0)) | none => []).length ≤ 10 := by
    cases hb : bs[i]? with
    | none => simp
    | some b => have := hbs b (List.mem_of_getElem? hb); simpa using this
  exact Nat.le_trans (Nat.add_le_add e1 e2) (by omega)
theorem smallP_count {s0 : Int} {bare : Bool} {bs : List S138} (h8 : bs.length ≤ 8) (hbs : ∀ b ∈ bs, b.f0.length ≤ 10) : countP (smallP s0 bare bs) ≤ 136 := by
  have h1 := countP_le (smallP s0 bare bs) (fun b hb => by have := smallP_mem hbs hb; rw [this.1]; simp; exact this.2)
  rw [smallP_len] at h1
  omega
/-- A run of a program in memory. -/
theorem runR_calls (p : List S31) (v : Value) (Ai : Option Addr) (ci : Nat) (inp : List Int) (F : Nat) (W : World) (hF : F ≤ 1048576) (hp : PrgR p W v) (hm : countP p ≤ 1099511627776) (hp0 : ∀ b ∈ p, b.f1 = []) (hin : ReadsInt W .i64 Ai inp.length inp) (hci : inp.length ≤ ci) :
    Calls Try.prog 29 #[v, .slice Ai inp.length ci, .int .i64 F] W fun e W' => ∃ v, e = .returned v ∧ OutR (runP p inp F) W' v ∧ Below W.heap.size W W' := by
  obtain ⟨A, c, rfl, h1, h2⟩ := hp
  exact (run_calls p A Ai c ci inp F W hF h2 h1 hm hp0 hin hci).mono fun e W' h => out_of_post h
theorem countR_calls (p : List S31) (v : Value) (W : World) (hp : PrgR p W v) (hm : countP p ≤ 1099511627776) :
    Calls Try.prog 78 #[v] W fun e w' => e = .returned (.int .i64 (countP p)) ∧ Below W.heap.size W w' := by
  obtain ⟨A, c, rfl, h1, h2⟩ := hp
  exact count_calls p A c W h2 h1 hm
/-- A value that is an outcome, its trace in a block of its own. -/
def OutS (o : Out) (v : Value) (V : World) : Prop := ∃ tv, v = ov o tv ∧ V.ownsRow 0 2 1 tv o.trace.length (o.trace.map (Value.int .i64))
theorem OutS.later {o : Out} {V V' : World} {v : Value} (h : OutS o v V) (hb : Below V.heap.size V V') : OutS o v V' := by
  obtain ⟨tv, h1, h2⟩ := h
  exact ⟨tv, h1, own_only (Only.of_below hb) h2 (fun g hg hk => by have := own_lt h2 hg; omega)⟩
theorem OutS.only {o : Out} {V V' : World} {v : Value} {g : Nat} {cs : Array Value} (h : OutS o v V) (hg : V.heap[g]? = some (.cells cs 60 (0, 0))) (ho : Only (fun k => k = g) V V') : OutS o v V' := by
  obtain ⟨tv, h1, h2⟩ := h
  exact ⟨tv, h1, own_only ho h2 (fun k hk e => own_ne_blk h2 hg (by decide) (by rw [hk, e]))⟩
theorem OutS.outR {o : Out} {V : World} {v : Value} (h : OutS o v V) : OutR o V v := by
  obtain ⟨tv, rfl, h1⟩ := h
  have h1' : V.ownsRow 0 2 1 tv o.trace.length (encs (Value.int .i64) o.trace) := h1
  obtain ⟨A, c, rfl, hc, hr⟩ := own_reads_of_le (d := (0 : Int)) h1'
  exact ⟨A, c, rfl, hc, Kd.C_of_reads (h1 := fun _ => rfl) hr⟩
theorem runS_calls (p : List S31) (v : Value) (Ai : Option Addr) (ci : Nat) (inp : List Int) (F : Nat) (W : World) (hF : F ≤ 1048576) (hp : PrgR p W v) (hm : countP p ≤ 1099511627776) (hp0 : ∀ b ∈ p, b.f1 = []) (hin : ReadsInt W .i64 Ai inp.length inp) (hci : inp.length ≤ ci) :
    Calls Try.prog 29 #[v, .slice Ai inp.length ci, .int .i64 F] W fun e W' => ∃ v, e = .returned v ∧ OutS (runP p inp F) v W' ∧ Below W.heap.size W W' := by
  obtain ⟨A, c, rfl, h1, h2⟩ := hp
  refine (run_calls p A Ai c ci inp F W hF h2 h1 hm hp0 hin hci).mono fun e W' h => ?_
  obtain ⟨tv, rfl, h1, h2⟩ := h
  exact ⟨_, rfl, ⟨tv, rfl, own_base h1 (Nat.zero_le _)⟩, h2⟩
end Go.Proofs.Ytffnkbicbfjnpaa
