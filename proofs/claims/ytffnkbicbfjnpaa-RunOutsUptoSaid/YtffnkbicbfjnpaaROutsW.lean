/- refinerylaw13.RunOuts: the walk. Conditions: the numbers are of their kinds. -/
import Derived.Test.YtffnkbicbfjnpaaRFuelW
import Derived.ArgAppend
import Derived.Lib.AppendZeros
namespace Go.Proofs.Ytffnkbicbfjnpaa
open Go.RowKit Go.Proofs.Ytffnkbicbfjnpaa.PRunFuel
open Go.Proofs.YtffnkbicbfjnpaaW.PrintWords (ReadsInt rd Kd encs own_reads_of_le)
/-- append of a whole slice of one-cell elements onto a row of the call's own. -/
theorem append_read {P : Program} {w : World} {base : Nat} (t ty e : TypeId) (i : TypeInfo) (z : Value) (bytes : Nat) (ht : P.underlying t = some (.slice e)) (hi : P.info? e = some i) (hz : i.zero = some z) (hsize : i.size = 1) (hby : i.bytes = bytes) (hzs : z.cells.size = 1)
    {v : Value} {n : Nat} {xs : List Value} (h : w.ownsRow base e 1 v n xs) (A : Option Addr) (c : Nat) (news : List Value) (hA : 0 < news.length → ∃ ad, A = some ad ∧ ∀ j u, news[j]? = some u → w.cell? (ad.add j) = some u) (h1 : ∀ u ∈ news, u.oneCell' = true)
    (hb : base ≤ w.heap.size) (h63 : n + news.length ≤ maxLen) (hbytes : (n + news.length) * bytes ≤ 140737488355328) :
    ∃ v' w', (Builtin.append_ #[t, t] ty #[v, .slice A news.length c]).run P w = .ok v' w' ∧ w'.ownsRow base e 1 v' (n + news.length) (xs ++ news) ∧ w.grownBy w' v.ownBlock := by
  cases A with
  | none =>
    have hn : news = [] := by
      cases news with
      | nil => rfl
      | cons u r => obtain ⟨ad, e, _⟩ := hA (by simp); cases e
    subst hn
    refine ⟨v, w, ?_, by simpa using h, World.grownBy.refl _ _⟩
    rcases h.2 with ⟨rfl, rfl⟩ | ⟨g, cap, cur, rfl, _, _, hnc, _⟩
    · simp [Builtin.append_, run_underlying ht, sizeOf, typeInfo, hi, Builtin.lenOf, Builtin.firstCells]
    · simp [Builtin.append_, run_underlying ht, sizeOf, typeInfo, hi, Builtin.lenOf, Builtin.firstCells, hnc, storeCells]
  | some ad =>
    obtain ⟨v', w', hr, r1, r2, _⟩ := run_append_own (P := P) w base t ty e i z 1 bytes ht hi hz hsize hby hzs (by omega) v n xs h ad news.length c news (by simp) (fun j u hj => by
      obtain ⟨ad', e, hc⟩ := hA (by have := (List.getElem?_eq_some_iff.1 hj).1; omega)
      cases e
      exact hc j u hj) h1 h63 hbytes hb
    exact ⟨v', w', hr, r1, r2⟩
set_option linter.unusedSimpArgs false in
set_option maxRecDepth 100000 in
set_option maxHeartbeats 4000000 in
theorem outs_calls (s0 : Int) (bare : Bool) (bs : List S138) (A Ai : Option Addr) (c ci : Nat) (inp : List Int) (x : Int) (W : World) (h0 : 0 ≤ s0) (hA : k138.C W A bs.length bs) (hc : bs.length ≤ c) (hb1 : ∀ b ∈ bs, 0 ≤ b.f1)
    (hin : ReadsInt W .i64 Ai inp.length inp) (hci : inp.length ≤ ci) (hx : 0 ≤ x ∧ x ≤ 65535) :
    Calls Try.prog 7 #[.agg #[.int .u8 s0, .bool bare, .slice A bs.length c], .slice Ai inp.length ci, .int .u16 x] W fun e W' => e = .returned (.bool true) ∧ Below W.heap.size W W' := by
  have HA := Lib.hid (And.intro hA (And.intro hc (And.intro hb1 (And.intro hin (And.intro hci h0)))))
  clear hA hc hb1 hin hci h0
  go_enter Try.func7, Try.ntmps7
  go_wp2_with fail
  generalize hX : World.alloc W _ = X
  have hbX : Below W.heap.size W X := hX ▸ (Below.refl _ _).alloc (Nat.le_refl _) _
  have hS : FS W X s0 bare bs A c Ai inp := ⟨hX ▸ heap_alloc_new W _, Kd.C_below HA.out.1 hbX, HA.out.2.2.2.1.below hbX, hbX⟩
  have HS := Lib.hid hS
  clear hbX hS hX
  refine (awake_calls X).mono ?_
  rintro e W1 ⟨rfl, hb⟩
  have HS1 := Lib.hid (HS.out.later hb)
  clear hb HS
  obtain ⟨x0, x1, x2⟩ := HS1.out.cells
  go_wp2_with fail
  clear x0 x1 x2
  refine (light_calls s0 bare bs A c W1 HS1.out.bs HA.out.2.1).mono ?_
  rintro e W2 ⟨rfl, hb⟩
  have HS2 := Lib.hid (HS1.out.later hb)
  clear hb HS1
  by_cases hl : (∀ b ∈ bs, b.f0.length ≤ 10) ∧ bs.length ≤ 8
  · rw [decide_eq_true hl]
    have HL := Lib.hid hl
    clear hl
    by_cases h30 : inp.length ≤ 30
    · have h30b : decide ((30 : Int) < (inp.length : Int)) = false := decide_eq_false (by omega)
      obtain ⟨x0, x1, x2⟩ := HS2.out.cells
      go_wp2_with fail
      clear x0 x1 x2 h30b
      refine (program_calls s0 HA.out.2.2.2.2.2 bare bs A c W2 HS2.out.bs HA.out.2.1 HL.out.2 (fun b hb => ⟨HA.out.2.2.1 b hb, HL.out.1 b hb⟩)).mono ?_
      rintro e W3 ⟨⟨v, rfl, hv⟩, hb⟩
      obtain ⟨Ap, cp, rfl, hcp, hAp⟩ := hv
      have HS3 := Lib.hid (HS2.out.later hb)
      have HP := Lib.hid (And.intro hAp hcp)
      clear hb HS2 hAp hcp
      obtain ⟨n, hn⟩ : ∃ n : Nat, x % 400 = n := ⟨(x % 400).toNat, by omega⟩
      have hm4 : n < 400 := by omega
      go_wp2_with fail
      clear hn hx
      refine wp_named fun Y hY => ?_
      have hbY : Below W3.heap.size W3 Y := hY ▸ (Below.refl _ _).alloc (Nat.le_refl _) _
      have hpq : Y.heap[W3.heap.size]? = some (.cells #[.slice Ap (smallP s0 bare bs).length cp] 57 (0, 0)) := hY ▸ heap_alloc_new W3 _
      have hPY : PrgR (smallP s0 bare bs) Y (.agg #[.slice Ap (smallP s0 bare bs).length cp]) := ⟨Ap, cp, rfl, HP.out.2, Kd.C_below HP.out.1 hbY⟩
      have hIY := HS3.out.inp.below hbY
      have hWY := below_two HS3.out.below hbY
      have hR := smallP_runs (s0 := s0) (bare := bare) HL.out.2 HL.out.1
      have hci := HA.out.2.2.2.2.1
      have HH := Lib.hid (And.intro hPY (And.intro hIY (And.intro hWY (And.intro hR hci))))
      have hq1 := cell_of_blk _ _ _ _ _ hpq 0
      have hS1 : TS Y W3.heap.size (.slice Ap (smallP s0 bare bs).length cp) (Y.drewN 1) := ⟨hq1, lt_blk' hpq, Lib.hid (below_drewN Y 1)⟩
      clear hY hbY hpq hPY hIY hWY hR hci HS3 HP HA hq1
      generalize W3.heap.size = q at *
      generalize smallP s0 bare bs = p at *
      obtain ⟨o1, ho1⟩ : ∃ o1, runP p inp n = o1 := ⟨_, rfl⟩
      have HO1 := Lib.hid ho1
      have hex := runP_ext p inp n (by omega)
      rw [ho1] at hex
      have HEX := Lib.hid hex
      have hl1 : o1.trace.length ≤ 400 := by omega
      clear ho1 hex
      refine wp_region_held_drew (S := (TS Y q (.slice Ap p.length cp))) (by kernel_rfl) (by (first | exact hS1 | (refine TS.later (by assumption) ?_; assumption))) (fun hHeld => ?_)
      refine wpAnyH_take (i := 0) (oi := { dst := some 27, op := Go.Op.load 57 (Go.Operand.tmp 7), type := 57, pos := "law.go:164", after := #[], guard := none }) (v := ?_) rfl (by kernel_rfl) (by kernel_rfl) (by kernel_rfl) (fun _ _ _ h => h) (Or.inl ⟨by rfl, ?_⟩) (by assumption) ?_
      rotate_left 1
      · intro w hSw; (obtain ⟨d0, _, _⟩ := hSw); go_simp; try with_reducible rfl
      try simp only [Act.put, List.setIfInBounds_toArray, List.set_cons_zero, List.set_cons_succ]
      refine wpAnyH_take (i := 1) (oi := { dst := some 28, op := Go.Op.move (Go.Operand.tmp 1), type := 54, pos := "law.go:164", after := #[], guard := none }) (v := ?_) rfl (by kernel_rfl) (by kernel_rfl) (by kernel_rfl) (fun _ _ _ h => h) (Or.inl ⟨by rfl, ?_⟩) (by assumption) ?_
      rotate_left 1
      · intro w hSw; (obtain ⟨d0, _, _⟩ := hSw); go_simp; try with_reducible rfl
      try simp only [Act.put, List.setIfInBounds_toArray, List.set_cons_zero, List.set_cons_succ]
      refine wpAnyH_take (i := 2) (oi := { dst := some 29, op := Go.Op.move (Go.Operand.tmp 8), type := 3, pos := "law.go:164", after := #[], guard := none }) (v := ?_) rfl (by kernel_rfl) (by kernel_rfl) (by kernel_rfl) (fun _ _ _ h => h) (Or.inl ⟨by rfl, ?_⟩) (by assumption) ?_
      rotate_left 1
      · intro w hSw; (obtain ⟨d0, _, _⟩ := hSw); go_simp; try with_reducible rfl
      try simp only [Act.put, List.setIfInBounds_toArray, List.set_cons_zero, List.set_cons_succ]
      refine wpAnyH_take (i := 4) (oi := { dst := some 31, op := Go.Op.load 57 (Go.Operand.tmp 7), type := 57, pos := "law.go:164", after := #[], guard := none }) (v := ?_) rfl (by kernel_rfl) (by kernel_rfl) (by kernel_rfl) (fun _ _ _ h => h) (Or.inl ⟨by rfl, ?_⟩) (by assumption) ?_
      rotate_left 1
      · intro w hSw; (obtain ⟨d0, _, _⟩ := hSw); go_simp; try with_reducible rfl
      try simp only [Act.put, List.setIfInBounds_toArray, List.set_cons_zero, List.set_cons_succ]
      refine wpAnyH_take (i := 5) (oi := { dst := some 32, op := Go.Op.move (Go.Operand.tmp 1), type := 54, pos := "law.go:164", after := #[], guard := none }) (v := ?_) rfl (by kernel_rfl) (by kernel_rfl) (by kernel_rfl) (fun _ _ _ h => h) (Or.inl ⟨by rfl, ?_⟩) (by assumption) ?_
      rotate_left 1
      · intro w hSw; (obtain ⟨d0, _, _⟩ := hSw); go_simp; try with_reducible rfl
      try simp only [Act.put, List.setIfInBounds_toArray, List.set_cons_zero, List.set_cons_succ]
      refine wpAnyH_take (i := 6) (oi := { dst := some 33, op := Go.Op.move (Go.Operand.tmp 8), type := 3, pos := "law.go:164", after := #[], guard := none }) (v := ?_) rfl (by kernel_rfl) (by kernel_rfl) (by kernel_rfl) (fun _ _ _ h => h) (Or.inl ⟨by rfl, ?_⟩) (by assumption) ?_
      rotate_left 1
      · intro w hSw; (obtain ⟨d0, _, _⟩ := hSw); go_simp; try with_reducible rfl
      try simp only [Act.put, List.setIfInBounds_toArray, List.set_cons_zero, List.set_cons_succ]
      refine two_start (x := ⟨3, 7, 8, 9, 10, 11⟩) (B := Y.heap.size) (T := 60) (zero := #[.int .u8 0, .int .i64 0, .slice none 0 0, .int .i64 0]) (cellsOf := Value.cells) (R1 := OutS o1) (R2 := OutS o1) 30 34 9 10 (by kernel_rfl) (by kernel_rfl) (by decide) (by rfl) (by assumption) (fun _ _ h hb => h.later hb) (fun _ _ _ h hg ho => h.only hg ho) (fun _ h => h.2.2.out.size) (fun _ _ _ h hb => h.later hb) (fun _ _ _ _ _ h hg ho => h.only hg ho) (fun _ _ _ h hb => h.later hb) (fun _ _ _ _ _ h hg ho => h.only hg ho) ?_ ?_ ?_ ?_ ?_ ?_ ?_
      · intro v1 v2 p1 p2 w K hSw hK
        refine wpOp_step (o := { dst := some 30, op := Go.Op.call { callee := Go.Callee.value (Go.Operand.func 29), args := #[Go.Operand.tmp 27, Go.Operand.tmp 28, Go.Operand.tmp 29], argTypes := #[57, 54, 3] }, type := 60, pos := "law.go:164", after := #[{ on := 0, ground := Go.Ground.data }, { on := 1, ground := Go.Ground.data }, { on := 2, ground := Go.Ground.data }], guard := none }) rfl (fun K' hK' => ?_)
        have HK := Lib.hid (And.intro hK hK')
        clear hK hK'
        simp only [put4, Act.put, List.setIfInBounds_toArray, List.set_cons_zero, List.set_cons_succ]
        go_simp
        refine (runS_calls p _ Ai ci inp n w (by omega) (HH.out.1.later hSw.2.2.out) (by have := HH.out.2.2.2.1.count; omega) HH.out.2.2.2.1.bare (HH.out.2.1.below hSw.2.2.out) HH.out.2.2.2.2).mono ?_
        rintro e w' ⟨v, rfl, hv, hb⟩
        rw [HO1.out] at hv
        exact HK.out.2 _ _ (HK.out.1 v w' hv hb)
      · intro v1 v2 p1 p2 w K hSw hK
        refine wpOp_step (o := { dst := some 34, op := Go.Op.call { callee := Go.Callee.value (Go.Operand.func 29), args := #[Go.Operand.tmp 31, Go.Operand.tmp 32, Go.Operand.tmp 33], argTypes := #[57, 54, 3] }, type := 60, pos := "law.go:164", after := #[{ on := 4, ground := Go.Ground.data }, { on := 5, ground := Go.Ground.data }, { on := 6, ground := Go.Ground.data }, { on := 3, ground := Go.Ground.chain }], guard := none }) rfl (fun K' hK' => ?_)
        have HK := Lib.hid (And.intro hK hK')
        clear hK hK'
        simp only [put4, Act.put, List.setIfInBounds_toArray, List.set_cons_zero, List.set_cons_succ]
        go_simp
        refine (runS_calls p _ Ai ci inp n w (by omega) (HH.out.1.later hSw.2.2.out) (by have := HH.out.2.2.2.1.count; omega) HH.out.2.2.2.1.bare (HH.out.2.1.below hSw.2.2.out) HH.out.2.2.2.2).mono ?_
        rintro e w' ⟨v, rfl, hv, hb⟩
        rw [HO1.out] at hv
        exact HK.out.2 _ _ (HK.out.1 v w' hv hb)
      · intro v1 v2 p1 p2 w K hSw hK
        refine wpOp_step (o := { dst := some 9, op := Go.Op.alloc 60, type := 0, pos := "law.go:164", after := #[], guard := none }) rfl (fun K' hK' => ?_)
        have HK := Lib.hid (And.intro hK hK')
        clear hK hK'
        simp only [put4, Act.put, List.setIfInBounds_toArray, List.set_cons_zero, List.set_cons_succ]
        go_simp
        exact HK.out.2 _ _ HK.out.1
      · intro v1 v2 p1 p2 w K hSw hK
        refine wpOp_step (o := { dst := some 10, op := Go.Op.alloc 60, type := 0, pos := "law.go:164", after := #[], guard := none }) rfl (fun K' hK' => ?_)
        have HK := Lib.hid (And.intro hK hK')
        clear hK hK'
        simp only [put4, Act.put, List.setIfInBounds_toArray, List.set_cons_zero, List.set_cons_succ]
        go_simp
        exact HK.out.2 _ _ HK.out.1
      · intro v1 v2 g p2 w K hSw hv hg
        refine Exists.elim hv.sl (fun A1 ht => Exists.elim ht (fun c1 hvt => ?_))
        rw [hvt]
        clear hv hvt ht
        intro hK
        refine wpOp_step (o := { dst := none, op := Go.Op.store 60 (Go.Operand.tmp 9) (Go.Operand.tmp 30), type := 0, pos := "law.go:164", after := #[{ on := 8, ground := Go.Ground.data }, { on := 3, ground := Go.Ground.data }, { on := 7, ground := Go.Ground.chain }, { on := 0, ground := Go.Ground.phase }, { on := 1, ground := Go.Ground.phase }, { on := 2, ground := Go.Ground.phase }, { on := 3, ground := Go.Ground.phase }, { on := 4, ground := Go.Ground.textOnly Go.Departure.lateStores }, { on := 5, ground := Go.Ground.textOnly Go.Departure.lateStores }, { on := 6, ground := Go.Ground.textOnly Go.Departure.lateStores }, { on := 7, ground := Go.Ground.textOnly Go.Departure.lateStoresUnsure }, { on := 8, ground := Go.Ground.phase }, { on := 9, ground := Go.Ground.phase }], guard := none }) rfl (fun K' hK' => ?_)
        have HK := Lib.hid (And.intro hK hK')
        have HG := Lib.hid hg
        have y0 := (rblk hg).1
        have y1 := (rblk hg).2.1
        have y2 := (rblk hg).2.2.1
        have y3 := (rblk hg).2.2.2.1
        have f0 := (rblk hg).2.2.2.2.1
        have f1 := (rblk hg).2.2.2.2.2.1
        have f2 := (rblk hg).2.2.2.2.2.2.1
        have f3 := (rblk hg).2.2.2.2.2.2.2
        clear hK hK' hg
        simp only [put4, Act.put, List.setIfInBounds_toArray, List.set_cons_zero, List.set_cons_succ, ov]
        go_simp
        have h4 := store4 (.int .u8 o1.fin) (.int .i64 o1.val) (.slice A1 o1.trace.length c1) (.int .i64 o1.steps) HG.out
        exact HK.out.2 _ _ (HK.out.1 _ h4.1 h4.2)
      · intro v1 v2 p1 g w K hSw hv hg
        refine Exists.elim hv.sl (fun A1 ht => Exists.elim ht (fun c1 hvt => ?_))
        rw [hvt]
        clear hv hvt ht
        intro hK
        refine wpOp_step (o := { dst := none, op := Go.Op.store 60 (Go.Operand.tmp 10) (Go.Operand.tmp 34), type := 0, pos := "law.go:164", after := #[{ on := 9, ground := Go.Ground.data }, { on := 7, ground := Go.Ground.data }, { on := 10, ground := Go.Ground.chain }, { on := 0, ground := Go.Ground.phase }, { on := 1, ground := Go.Ground.phase }, { on := 2, ground := Go.Ground.phase }, { on := 3, ground := Go.Ground.phase }, { on := 4, ground := Go.Ground.phase }, { on := 5, ground := Go.Ground.phase }, { on := 6, ground := Go.Ground.phase }, { on := 7, ground := Go.Ground.phase }, { on := 8, ground := Go.Ground.phase }, { on := 9, ground := Go.Ground.phase }, { on := 10, ground := Go.Ground.phase }], guard := none }) rfl (fun K' hK' => ?_)
        have HK := Lib.hid (And.intro hK hK')
        have HG := Lib.hid hg
        have y0 := (rblk hg).1
        have y1 := (rblk hg).2.1
        have y2 := (rblk hg).2.2.1
        have y3 := (rblk hg).2.2.2.1
        have f0 := (rblk hg).2.2.2.2.1
        have f1 := (rblk hg).2.2.2.2.2.1
        have f2 := (rblk hg).2.2.2.2.2.2.1
        have f3 := (rblk hg).2.2.2.2.2.2.2
        clear hK hK' hg
        simp only [put4, Act.put, List.setIfInBounds_toArray, List.set_cons_zero, List.set_cons_succ, ov]
        go_simp
        have h4 := store4 (.int .u8 o1.fin) (.int .i64 o1.val) (.slice A1 o1.trace.length c1) (.int .i64 o1.steps) HG.out
        exact HK.out.2 _ _ (HK.out.1 _ h4.1 h4.2)
      · intro v1 v2 g1 g2 w hSw hv1 hv2 hg1 hg2 hne hh1 hh2
        refine Exists.elim hv1.outR (fun A1 h => Exists.elim h (fun c1 h1 => ?_))
        refine Exists.elim hv2.outR (fun A2 h => Exists.elim h (fun c2 h2 => ?_))
        have r1 := hv1.outR
        have r2 := hv2.outR
        rw [h1.1] at hh1 r1
        rw [h2.1] at hh2 r2
        rw [h1.1, h2.1]
        have hA := AbS.mk' hSw r1 r2 hh1 hh2
        have HAB := Lib.hid hA
        clear hSw hv1 hv2 hg1 hg2 hne hh1 hh2 h1 h2 r1 r2 hHeld hS1 hA
        simp only [put4, Act.put, List.setIfInBounds_toArray, List.set_cons_zero, List.set_cons_succ, ov]
        have hIw := HH.out.2.1.below HAB.out.out.1
        have hbw := below_two HH.out.2.2.1 HAB.out.out.1
        have hci := HH.out.2.2.2.2
        obtain ⟨i0, hi0, hz0, hz1, hz2⟩ := info_parts info64
        have hown : (w.alloc (.cells #[] 2)).ownsRow w.heap.size 2 1 (.slice (some ⟨w.heap.size, 0, none⟩) 0 0) 0 [] := ⟨rfl, .inr ⟨w.heap.size, 0, #[], rfl, Nat.le_refl _, heap_alloc_new w _, Nat.le_refl _, by decide, rfl, rfl⟩⟩
        have hap := append_read (P := Try.prog) 54 54 2 i0 (.int .i64 0) 8 Try.underlying54 hi0 hz0 hz1 hz2 rfl hown Ai ci (inp.map (Value.int .i64)) (by have h := hIw.2.2; intro hp; obtain ⟨ad, e, hc⟩ := h (by simpa using hp); refine ⟨ad, e, fun j u hj => ?_⟩; rw [List.getElem?_map] at hj; cases hx : inp[j]? with | none => rw [hx] at hj; cases hj | some y => rw [hx] at hj; cases hj; have hj' := (List.getElem?_eq_some_iff.1 hx).1; exact (cell_low ((Below.refl _ _).alloc (Nat.le_refl _) _) (by have := hc j hj'; rw [this]; simp [rd, hx]))) (by simp [Value.oneCell']) (by simp) (by unfold maxLen; simp; omega) (by simp; omega)
        simp only [List.length_map, Nat.zero_add, List.nil_append] at hap
        obtain ⟨v', w', hr, h1, h2⟩ := hap
        have hbw' : Below w.heap.size w w' := (((Only.alloc (fun k => k = w.heap.size) w _).trans (Only.grown h2) (fun x hx e => by simp [Value.ownBlock] at e; exact e.symm))).below (Nat.le_refl _) (fun k hk e => by omega)
        have h1' : w'.ownsRow w.heap.size 2 1 v' inp.length (encs (Value.int .i64) inp) := h1
        obtain ⟨Aw, cw, rfl, hcw, hrw⟩ := own_reads_of_le (d := (0 : Int)) h1'
        have HR := Lib.hid hr
        have HW := Lib.hid (And.intro hIw (And.intro hbw (And.intro (HAB.out.later hbw') (And.intro hbw' (And.intro hcw (Kd.C_of_reads (h1 := fun _ => rfl) hrw))))))
        clear hIw hbw hi0 hz0 hz1 hz2 hown h1 h2 h1' hbw' hr hrw hcw hci
        have hq8 := HW.out.2.2.1.2.2.2.2.2.2.2.2.1
        go_wp2_with (first | (at_builtin; refine Lib.wpList_append_run _ rfl _ _ _ _ rfl _ _ rfl rfl _ _ HR.out ?_) | fail)
        clear HR
        refine (runR_calls p _ Ai ci inp 50 w' (by omega) (HH.out.1.later (below_two HAB.out.out.1 HW.out.2.2.2.1)) (by have := HH.out.2.2.2.1.count; omega) HH.out.2.2.2.1.bare (HW.out.1.below HW.out.2.2.2.1) HH.out.2.2.2.2).mono ?_
        rintro e w3 ⟨v3, rfl, _, hb3⟩
        have HW3 := Lib.hid (And.intro (HW.out.1.below (below_two HW.out.2.2.2.1 hb3)) (And.intro (below_two HW.out.2.1 (below_two HW.out.2.2.2.1 hb3)) (And.intro (HW.out.2.2.1.later hb3) (And.intro HW.out.2.2.2.2.1 (Kd.C_below HW.out.2.2.2.2.2 hb3)))))
        clear hb3 HW HAB hq8
        have k0 := HW3.out.2.2.1.1
        have k1 := HW3.out.2.2.1.2.1
        have k2 := HW3.out.2.2.1.2.2.1
        have k3 := HW3.out.2.2.1.2.2.2.1
        have k4 := HW3.out.2.2.1.2.2.2.2.1
        have k5 := HW3.out.2.2.1.2.2.2.2.2.1
        have k6 := HW3.out.2.2.1.2.2.2.2.2.2.1
        have k7 := HW3.out.2.2.1.2.2.2.2.2.2.2.1
        have b1 : decide (o1.trace.length ≤ o1.steps) = true := decide_eq_true HEX.out.1
        have b2 : decide (o1.steps ≤ n) = true := decide_eq_true HEX.out.2.1
        go_wp2_with fail
        refine (sameO_calls o1 o1 _ _ _ HW3.out.2.2.1.out.2.1 HW3.out.2.2.1.out.2.2 (by omega)).mono ?_
        rintro e w4 ⟨rfl, hb4⟩
        have hsm : sameO o1 o1 = true := by unfold sameO; simp
        rw [hsm]
        have HW4 := Lib.hid (And.intro (HW3.out.1.below hb4) (And.intro (below_two HW3.out.2.1 hb4) (And.intro (HW3.out.2.2.1.later hb4) (And.intro HW3.out.2.2.2.1 (Kd.C_below HW3.out.2.2.2.2 hb4)))))
        clear hb4 HW3 k0 k1 k2 k3 k4 k5 k6 k7 hsm
        have k3 := HW4.out.2.2.1.2.2.2.1
        have k7 := HW4.out.2.2.1.2.2.2.2.2.2.2.1
        go_wp2_with fail
        refine (equal_calls inp inp Ai Aw ci cw w4 (Kd.C_of_reads (h1 := fun _ => rfl) HW4.out.1) HH.out.2.2.2.2 HW4.out.2.2.2.2 HW4.out.2.2.2.1 (by omega)).mono ?_
        rintro e w5 ⟨rfl, hb5⟩
        have HW5 := Lib.hid (And.intro (below_two HW4.out.2.1 hb5) (HW4.out.2.2.1.later hb5))
        clear hb5 HW4 k3 k7
        have k0 := HW5.out.2.1
        have k1 := HW5.out.2.2.1
        have hbel := HW5.out.1
        rw [decide_eq_true (rfl : inp = inp)]
        by_cases hf : o1.fin = 0
        · have hfb : (o1.fin == 0) = true := beq_iff_eq.mpr hf
          clear hf
          go_wp2_with fail
          go_ret
          exact ⟨rfl, hbel⟩
        · have hfb : (o1.fin == 0) = false := beq_eq_false_iff_ne.mpr hf
          have hvb : (o1.val == 0) = true := beq_iff_eq.mpr (HEX.out.2.2.resolve_left hf)
          clear hf
          go_wp2_with fail
          go_ret
          exact ⟨rfl, hbel⟩
    · have h30b : decide ((30 : Int) < (inp.length : Int)) = true := decide_eq_true (by omega)
      have hbel := HS2.out.below
      go_wp2_with fail
      go_ret
      exact ⟨rfl, hbel⟩
  · rw [decide_eq_false hl]
    have hbel := HS2.out.below
    go_wp2_with fail
    go_ret
    exact ⟨rfl, hbel⟩
end Go.Proofs.Ytffnkbicbfjnpaa
