/- dom.finder.pass, eval: ways to the root are made short; the least half-dominator on them. Conditions: the forest is as the plain law asks. -/
import Derived.Test.YtnkbbjeepdjamaaM5
import Derived.Test.YtnkbbjeepdjamaaM1
import Derived.LoopTactic
import Derived.Outline
import Derived.Deep.QuietTactic
import Derived.BigQuiet
import Derived.StillTailTactics
namespace Go.Proofs.Ytnkbbjeepdjamaa
open Go.RowKit
namespace LT
section
variable {s : List Nat} {E A : Nat → Nat → Prop} {p sd : Nat → Nat} (h : Dfs s.length E A p) (hnd : s.Nodup) {n F qp qs qr ql i0 : Nat} {vv : Value} {par semi : List Int} (hsn : ∀ v ∈ s, v < n) (hn : n ≤ 1048576)
  (hse : ∀ (k x : Nat), i0 ≤ k → s[k]? = some x → semi[x]? = some (sd k : Int))
/-- What pass leaves. -/
def PassPost (s : List Nat) (A : Nat → Nat → Prop) (sd : Nat → Nat) (i0 F n : Nat) (vv : Value) (qp qs qr ql : Nat) (par semi root label : List Int) (j v : Nat) (w w' : World) : Prop :=
  ∃ root' label', FM w' F n vv qp qs qr ql par semi root' label' ∧ Only (fun k => k = qr ∨ k = ql) w w' ∧ Forest s A sd i0 root' label' ∧ (∃ r u : Nat, r < i0 ∧ s[r]? = some u ∧ root'[v]? = some (u : Int)) ∧
    (∀ k x : Nat, j < k → s[k]? = some x → root'[x]? = root[x]? ∧ label'[x]? = label[x]?)
set_option linter.unusedSectionVars false in
include h hnd hsn hn hse in
set_option maxRecDepth 100000 in
set_option maxHeartbeats 4000000 in
theorem pass_calls : ∀ (j v : Nat) (w : World) (root label : List Int), FM w F n vv qp qs qr ql par semi root label → Forest s A sd i0 root label → i0 ≤ j → s[j]? = some v →
    Calls Try.prog 75 #[.pointer (some ⟨F, 0, none⟩), .int .i64 v] w fun e w' => e = .returned (.tuple #[]) ∧ PassPost s A sd i0 F n vv qp qs qr ql par semi root label j v w w' := by
  intro j
  induction j using Nat.strongRecOn with
  | _ j ih =>
    intro v w root label hf hfo hj hv
    have IH := Lib.hid ih
    clear ih
    obtain ⟨r, u, l, x, hu, hru, hx, hlx, ha, hlk⟩ := hfo.ln j v hj hv
    have hvn : v < n := hsn v (List.mem_of_getElem? hv)
    have hun : u < n := hsn u (List.mem_of_getElem? hu)
    have hc := hf.cell
    have x3 := hc.2.2.2.1
    have cv := hf.root.cell hru
    have i1 : 0 ≤ (v : Int) := by omega
    have i2 : (v : Int) < (n : Int) := by omega
    have i3 : 0 ≤ (u : Int) := by omega
    have i4 : (u : Int) < (n : Int) := by omega
    have hrj := (h.le _ _ (ha.anc h.trans)).1
    have hrl := (h.le _ _ ha.1).1
    have hlj := (h.le _ _ ha.2.2.1).1
    have hrne := ha.2.1
    by_cases hr : r < i0
    · have cu := hf.root.cell (hfo.un r u hr hu).1
      have HF := Lib.hid (And.intro hf (And.intro hfo (And.intro hu hru)))
      clear hf hfo hc hu hru hx hlx ha hlk hv
      go_enter Try.func75, Try.ntmps75
      go_wp2_with fail
      exact bodyPost_ret (v := .tuple #[]) (by simp [results, Try.results75, go_sem]) rfl ⟨rfl, root, label, HF.out.1, Only.refl _ _, HF.out.2.1, ⟨r, u, hr, HF.out.2.2.1, HF.out.2.2.2⟩, fun _ _ _ _ => ⟨rfl, rfl⟩⟩
    · obtain ⟨r', u', l2', x2', hu', hru', hx2', hlx2', ha', hlk'⟩ := hfo.ln r u (by omega) hu
      have cu := hf.root.cell hru'
      have i5 : ¬ ((u' : Int) < 0) := by omega
      clear hu' hx2' hlx2' ha' hlk' hru'
      have HF := Lib.hid (And.intro hf (And.intro hfo (And.intro hu (And.intro hru (And.intro hx (And.intro hlx (And.intro ha (And.intro hlk hv))))))))
      clear hf hfo hc hu hru hx hlx ha hlk hv
      go_enter Try.func75, Try.ntmps75
      go_wp2_with fail
      clear x3 cv cu
      refine (IH.out r (by omega) u w root label HF.out.1 HF.out.2.1 (by omega) HF.out.2.2.1).mono ?_
      rintro e w1 ⟨rfl, root1, label1, hf1, ho1, hfo1, ⟨r2, u2, hr2, hu2, hru2⟩, hk1⟩
      have hk := hk1 j v (by omega) HF.out.2.2.2.2.2.2.2.2
      obtain ⟨r3, u3, l2, x2, hu3, hru3, hx2, hlx2, ha2, hlk2⟩ := hfo1.ln r u (by omega) HF.out.2.2.1
      rw [hru2] at hru3
      have e3 : u2 = u3 := by have := Option.some.inj hru3; omega
      subst e3
      obtain rfl := pre_inj hnd hu2 hu3
      have hrv : root1[v]? = some (u : Int) := hk.1.trans HF.out.2.2.2.1
      have hlv : label1[v]? = some (x : Int) := hk.2.trans HF.out.2.2.2.2.2.1
      have ha := HF.out.2.2.2.2.2.2.1
      have hlk := HF.out.2.2.2.2.2.2.2.1
      have hl0 := hlk l ha.1 ha.2.1 ha.2.2.1
      have hl20 := hlk2 l2 ha2.1 ha2.2.1 ha2.2.2.1
      have hsl := hse l x hl0 HF.out.2.2.2.2.1
      have hsl2 := hse l2 x2 hl20 hx2
      have hxn := hsn x (List.mem_of_getElem? HF.out.2.2.2.2.1)
      have hx2n := hsn x2 (List.mem_of_getElem? hx2)
      have hsh := hfo1.short h hnd hj HF.out.2.2.2.2.2.2.2.2 hu2 HF.out.2.2.2.2.1 hx2 ha ha2 hlk hlk2 (List.getElem?_eq_some_iff.1 hrv).1 (List.getElem?_eq_some_iff.1 hlv).1
      have hrvl := (List.getElem?_eq_some_iff.1 hrv).1
      have huv : v ≠ u := fun e => by subst e; have := pre_inj hnd HF.out.2.2.1 HF.out.2.2.2.2.2.2.2.2; omega
      have keep : ∀ (a b : Int) (k y : Nat), j < k → s[k]? = some y → (root1.set v a)[y]? = root[y]? ∧ (label1.set v b)[y]? = label[y]? := fun a b k y hjk hy => by
        have hvy : v ≠ y := fun e => by subst e; have := pre_inj hnd hy HF.out.2.2.2.2.2.2.2.2; omega
        rw [List.getElem?_set_ne hvy, List.getElem?_set_ne hvy]
        exact hk1 k y (by omega) hy
      have keep2 : ∀ (a : Int) (k y : Nat), j < k → s[k]? = some y → (root1.set v a)[y]? = root[y]? ∧ label1[y]? = label[y]? := fun a k y hjk hy => by
        have hvy : v ≠ y := fun e => by subst e; have := pre_inj hnd hy HF.out.2.2.2.2.2.2.2.2; omega
        rw [List.getElem?_set_ne hvy]
        exact hk1 k y (by omega) hy
      have hlself : label1.set v (x : Int) = label1 := by
        apply List.ext_getElem?
        intro k
        rw [List.getElem?_set]
        split
        · rename_i e; subst e
          split
          · exact hlv.symm
          · rename_i e; exact absurd (List.getElem?_eq_some_iff.1 hlv).1 e
        · rfl
      have hc := hf1.cell
      have y2 := hc.2.2.1
      have y3 := hc.2.2.2.1
      have y4 := hc.2.2.2.2
      have c1 := hf1.label.cell hlx2
      have c2 := hf1.label.cell hlv
      have c3 := hf1.semi.cell hsl2
      have c4 := hf1.semi.cell hsl
      have c5 := hf1.root.cell hru2
      have j1 : 0 ≤ (x : Int) := by omega
      have j2 : (x : Int) < (n : Int) := by omega
      have j3 : 0 ≤ (x2 : Int) := by omega
      have j4 : (x2 : Int) < (n : Int) := by omega
      have C1 := Lib.hid hlx2
      have C2 := Lib.hid hlv
      have C5 := Lib.hid hru2
      have H1 := Lib.hid (And.intro hf1 (And.intro ho1 (And.intro hsh (And.intro keep (And.intro keep2 (And.intro hu2 (And.intro hrvl hlself)))))))
      clear hf1 ho1 hfo1 hu2 hru2 hk1 hk hu3 hru3 hx2 hlx2 ha2 hlk2 hrv hlv ha hlk hsl hsl2 hsh keep keep2 hc hrvl hlself
      have HSE := Lib.hid hse
      have HSN := Lib.hid hsn
      clear hse hsn
      by_cases hlt : sd l2 < sd l
      · have pp1 : ((sd l2 : Int) < (sd l : Int)) := by omega
        go_wp2_with fail
        go_quiet (fail)
        have hW1 := H1.out.1.drewN nq
        have hoW : Only (fun k => k = qr ∨ k = ql) w (w1.drewN nq) := H1.out.2.1.trans (Only.drewN (fun _ => False) w1 nq) (fun _ _ e => e.elim)
        generalize w1.drewN nq = W at *
        clear y2 y3 y4 c1 c2 c3 c4 c5 pp1
        have hc := hW1.cell
        have y4 := hc.2.2.2.2
        have c1 := hW1.label.cell (x := (x2 : Int)) (i := u) C1.out
        have hW2 := hW1.drewN 1
        have hoW2 := hoW.trans (Only.drewN (fun _ => False) W 1) (fun _ _ e => e.elim)
        have HW2 := Lib.hid (And.intro hW2 hoW2)
        clear hc hW1 hoW hW2 hoW2
        go_wp2_with fail
        go_still_tail 13, (by kernel_rfl)
        change wpList _ _ _ _ _ (W.drewN 1)
        have hW2 := HW2.out.1
        have hoW2 := HW2.out.2
        generalize W.drewN 1 = W2 at *
        clear y4 c1
        have c2 := hW2.label.cell (x := (x : Int)) (i := v) C2.out
        have f2 := hW2.label.frozen v
        have hW3 := hW2.setL v (x2 : Int)
        have hoW3 : Only (fun k => k = qr ∨ k = ql) w (W2.setCell ⟨ql, v, none⟩ (.int .i64 (x2 : Int))) := hoW2.trans (Only.setCell W2 ⟨ql, v, none⟩ _) (fun k _ e => .inr e)
        have HW3 := Lib.hid (And.intro hW3 hoW3)
        clear hW2 hoW2 hW3 hoW3
        go_wp2_with fail
        have hW3 := HW3.out.1
        have hoW3 := HW3.out.2
        generalize W2.setCell ⟨ql, v, none⟩ (.int .i64 (x2 : Int)) = W3 at *
        clear c2 f2
        have y3 := hW3.cell.2.2.2.1
        have c5 := hW3.root.cell (x := (u2 : Int)) (i := u) C5.out
        have hW4 := hW3.drewN 1
        have hoW4 := hoW3.trans (Only.drewN (fun _ => False) W3 1) (fun _ _ e => e.elim)
        have HW4 := Lib.hid (And.intro hW4 hoW4)
        clear hW3 hoW3 hW4 hoW4
        go_still_tail 13, (by kernel_rfl)
        change wpList _ _ _ _ _ (W3.drewN 1)
        have hW4 := HW4.out.1
        have hoW4 := HW4.out.2
        generalize W3.drewN 1 = W4 at *
        clear y3 c5
        obtain ⟨z, hz⟩ : ∃ z, root1[v]? = some z := ⟨_, List.getElem?_eq_getElem H1.out.2.2.2.2.2.2.1⟩
        have c6 := hW4.root.cell hz
        have f6 := hW4.root.frozen v
        have hW5 := hW4.setR v (u2 : Int)
        have hoW5 : Only (fun k => k = qr ∨ k = ql) w (W4.setCell ⟨qr, v, none⟩ (.int .i64 (u2 : Int))) := hoW4.trans (Only.setCell W4 ⟨qr, v, none⟩ _) (fun k _ e => .inl e)
        have HW5 := Lib.hid (And.intro hW5 hoW5)
        clear hW4 hoW4 hW5 hoW5 hz
        go_wp2_with fail
        go_end0
        have hsh := H1.out.2.2.1
        rw [if_pos hlt] at hsh
        exact ⟨rfl, _, _, HW5.out.1, HW5.out.2, hsh, ⟨r2, u2, hr2, H1.out.2.2.2.2.2.1, List.getElem?_set_self H1.out.2.2.2.2.2.2.1⟩, fun k y hk hy => H1.out.2.2.2.1 _ _ k y hk hy⟩
      · have pp1 : ¬ ((sd l2 : Int) < (sd l : Int)) := by omega
        go_wp2_with fail
        go_quiet (fail)
        have hW3 := H1.out.1.drewN nq
        have hoW3 : Only (fun k => k = qr ∨ k = ql) w (w1.drewN nq) := H1.out.2.1.trans (Only.drewN (fun _ => False) w1 nq) (fun _ _ e => e.elim)
        generalize w1.drewN nq = W3 at *
        clear y2 y3 y4 c1 c2 c3 c4 c5
        have y3 := hW3.cell.2.2.2.1
        have c5 := hW3.root.cell (x := (u2 : Int)) (i := u) C5.out
        have hW4 := hW3.drewN 1
        have hoW4 := hoW3.trans (Only.drewN (fun _ => False) W3 1) (fun _ _ e => e.elim)
        have HW4 := Lib.hid (And.intro hW4 hoW4)
        clear hW3 hoW3 hW4 hoW4
        go_wp2_with fail
        go_still_tail 13, (by kernel_rfl)
        change wpList _ _ _ _ _ (W3.drewN 1)
        have hW4 := HW4.out.1
        have hoW4 := HW4.out.2
        generalize W3.drewN 1 = W4 at *
        clear y3 c5
        obtain ⟨z, hz⟩ : ∃ z, root1[v]? = some z := ⟨_, List.getElem?_eq_getElem H1.out.2.2.2.2.2.2.1⟩
        have c6 := hW4.root.cell hz
        have f6 := hW4.root.frozen v
        have hW5 := hW4.setR v (u2 : Int)
        have hoW5 : Only (fun k => k = qr ∨ k = ql) w (W4.setCell ⟨qr, v, none⟩ (.int .i64 (u2 : Int))) := hoW4.trans (Only.setCell W4 ⟨qr, v, none⟩ _) (fun k _ e => .inl e)
        have HW5 := Lib.hid (And.intro hW5 hoW5)
        clear hW4 hoW4 hW5 hoW5 hz
        go_wp2_with fail
        go_end0
        have hsh := H1.out.2.2.1
        rw [if_neg hlt, H1.out.2.2.2.2.2.2.2] at hsh
        exact ⟨rfl, _, _, HW5.out.1, HW5.out.2, hsh, ⟨r2, u2, hr2, H1.out.2.2.2.2.2.1, List.getElem?_set_self H1.out.2.2.2.2.2.2.1⟩, fun k y hk hy => H1.out.2.2.2.2.1 _ k y hk hy⟩
/-- What eval gives: the place itself, if it isn't joined; the one of the least half-dominator on the way to its root. -/
def EvalPost (s : List Nat) (A : Nat → Nat → Prop) (sd : Nat → Nat) (i0 F n : Nat) (vv : Value) (qp qs qr ql : Nat) (par semi : List Int) (j v : Nat) (w : World) (e : Ending) (w' : World) : Prop :=
  ∃ (x : Nat) (root' label' : List Int), e = .returned (.int .i64 x) ∧ FM w' F n vv qp qs qr ql par semi root' label' ∧ Only (fun k => k = qr ∨ k = ql) w w' ∧ Forest s A sd i0 root' label' ∧
    ((j < i0 ∧ x = v) ∨ (i0 ≤ j ∧ ∃ r m, r < i0 ∧ Arg A sd r j m ∧ (∀ y, A r y → r ≠ y → A y j → i0 ≤ y) ∧ s[m]? = some x))
set_option linter.unusedSectionVars false in
include h hnd hsn hn hse in
set_option maxRecDepth 100000 in
set_option maxHeartbeats 4000000 in
theorem eval_calls (j v : Nat) (w : World) (root label : List Int) (hf : FM w F n vv qp qs qr ql par semi root label) (hfo : Forest s A sd i0 root label) (hv : s[j]? = some v) :
    Calls Try.prog 53 #[.pointer (some ⟨F, 0, none⟩), .int .i64 v] w (EvalPost s A sd i0 F n vv qp qs qr ql par semi j v w) := by
  have hvn : v < n := hsn v (List.mem_of_getElem? hv)
  have i1 : 0 ≤ (v : Int) := by omega
  have i2 : (v : Int) < (n : Int) := by omega
  have x3 := hf.cell.2.2.2.1
  by_cases hj : j < i0
  · have cv := hf.root.cell (hfo.un j v hj hv).1
    have HF := Lib.hid (And.intro hf hfo)
    clear hf hfo hv
    go_enter Try.func53, Try.ntmps53
    go_wp2_with fail
    go_ret
    exact ⟨v, root, label, rfl, HF.out.1, Only.refl _ _, HF.out.2, .inl ⟨hj, rfl⟩⟩
  · obtain ⟨r, u, l, x, hu, hru, hx, hlx, ha, hlk⟩ := hfo.ln j v (by omega) hv
    have cv := hf.root.cell hru
    have i3 : ¬ ((u : Int) < 0) := by omega
    have HP := Lib.hid (pass_calls h hnd hsn hn hse j v w root label hf hfo (by omega) hv)
    have HV := Lib.hid hv
    clear hf hfo hu hru hx hlx ha hlk hv
    go_enter Try.func53, Try.ntmps53
    go_wp2_with fail
    clear x3 cv i3
    refine HP.out.mono ?_
    rintro e w1 ⟨rfl, root1, label1, hf1, ho1, hfo1, ⟨r2, u2, hr2, hu2, hru2⟩, _⟩
    obtain ⟨r3, u3, l2, x2, hu3, hru3, hx2, hlx2, ha2, hlk2⟩ := hfo1.ln j v (by omega) HV.out
    rw [hru2] at hru3
    have e3 : u2 = u3 := by have := Option.some.inj hru3; omega
    subst e3
    obtain rfl := pre_inj hnd hu2 hu3
    have y4 := hf1.cell.2.2.2.2
    have c1 := hf1.label.cell hlx2
    have H1 := Lib.hid (And.intro hf1 (And.intro ho1 (And.intro hfo1 (And.intro ha2 (And.intro hlk2 hx2)))))
    clear hf1 ho1 hfo1 hu2 hru2 hu3 hru3 hx2 hlx2 ha2 hlk2
    go_wp2_with fail
    go_ret
    exact ⟨x2, root1, label1, rfl, H1.out.1, H1.out.2.1, H1.out.2.2.1, .inr ⟨by omega, r2, l2, hr2, H1.out.2.2.2.1, H1.out.2.2.2.2.1, H1.out.2.2.2.2.2⟩⟩
end
end LT
end Go.Proofs.Ytnkbbjeepdjamaa
