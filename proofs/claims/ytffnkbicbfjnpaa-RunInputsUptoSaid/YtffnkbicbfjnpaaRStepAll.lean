/- What a machine's step comes to, whatever the instruction; a block without phis is entered. Conditions: the machine's form; a slot in range; no more than 1048576 numbers put out. -/
import Derived.Test.YtffnkbicbfjnpaaRStep
namespace Go.Proofs.Ytffnkbicbfjnpaa
open Go.RowKit Go.Proofs.Ytffnkbicbfjnpaa.PRunFuel
open Go.Proofs.YtffnkbicbfjnpaaW.PrintWords (ReadsInt rd)
section
variable {B : Nat} {S : Nat → Prop} {w0 W : World} {p mp : Nat} {m : Mc} {e v : Int} {al : List (Int × Value)} {A : Option Addr} {c : Nat} {tv : Value}
theorem step_all (h : Mach B S w0 W p mp m e v al A c tv) (x : S38) (h6 : 0 ≤ x.f6 ∧ x.f6 < 16) (ht : m.trace.length ≤ 1048576) :
    Calls Try.prog 75 #[.pointer (some ⟨p, 0, none⟩), iv x] W fun ε W' => StepPost B S w0 p mp m e v x ε W' := by
  obtain ⟨f0, f1, f2, f3, f4, f5, f6⟩ := x
  by_cases k0 : f0 = 0
  · subst k0; exact step_0 h f1 f2 f3 f4 f5 f6
  by_cases k1 : f0 = 1
  · subst k1; exact step_1 h f1 f2 f3 f4 f5 f6
  by_cases k2 : f0 = 2
  · subst k2
    cases hd : (doF f1 (m.r f3) (m.r f4)).2
    · exact step_2n h f1 f2 f3 f4 f5 f6 hd
    · exact step_2y h f1 f2 f3 f4 f5 f6 hd
  by_cases k3 : f0 = 3
  · subst k3
    cases hi : m.inp with
    | nil => exact step_3n h f1 f2 f3 f4 f5 f6 hi
    | cons x0 t =>
      by_cases hc : c = 1
      · exact step_3z h f1 f2 f3 f4 f5 f6 x0 t hi hc
      · exact step_3y h f1 f2 f3 f4 f5 f6 x0 t hi hc
  by_cases k4 : f0 = 4
  · subst k4; exact step_4 h f1 f2 f3 f4 f5 f6 ht
  by_cases k5 : f0 = 5
  · subst k5; exact step_5 h f1 f2 f3 f4 f5 f6 h6
  by_cases k6 : f0 = 6
  · subst k6; exact step_6 h f1 f2 f3 f4 f5 f6 h6
  by_cases k7 : f0 = 7
  · subst k7
    by_cases ha : 0 ≤ m.r f3 ∧ m.r f3 < 64
    · exact step_7y h f1 f2 f3 f4 f5 f6 (m.r f3).toNat (by omega) (by omega)
    · exact step_7n h f1 f2 f3 f4 f5 f6 ha
  by_cases k8 : f0 = 8
  · subst k8
    by_cases ha : 0 ≤ m.r f3 ∧ m.r f3 < 64
    · exact step_8y h f1 f2 f3 f4 f5 f6 (m.r f3).toNat (by omega) (by omega)
    · exact step_8n h f1 f2 f3 f4 f5 f6 ha
  exact step_x h f0 f1 f2 f3 f4 f5 f6 (by omega)
/-- A block as it is handed over. -/
def bv (b : S31) (A1 : Option Addr) (c1 : Nat) (A2 : Option Addr) (c2 : Nat) : Value := .agg #[.int .i64 b.f0, .slice A1 b.f1.length c1, .slice A2 b.f2.length c2, .int .u8 b.f3.f0, .int .i64 b.f3.f1, .int .i64 b.f3.f2, .int .i64 b.f3.f3]
theorem enter_none (h : Mach B S w0 W p mp m e v al A c tv) (b : S31) (hb : b.f1 = []) (A1 A2 : Option Addr) (c1 c2 : Nat) (fr : Int) :
    Calls Try.prog 73 #[.pointer (some ⟨p, 0, none⟩), bv b A1 c1 A2 c2, .int .i64 fr] W fun ε W' => ε = .returned (.tuple #[]) ∧ Mach B S w0 W' p mp m e v al A c tv := by
  unfold bv
  rw [hb]
  clear hb
  have H := Lib.hid (fun W' (hb : Below W.heap.size W W') => h.later hb)
  clear h
  go_enter Try.func73, Try.ntmps73
  go_wp2
  go_loop [16] (fun i => i = .int .i64 0) (fun _ => 0)
  case atStart => rfl
  case round =>
    obtain rfl := hrel
    go_wp2
    go_loop [44] (fun i => i = .int .i64 0) (fun _ => 0)
    case atStart => rfl
    case round =>
      obtain rfl := hrel
      go_wp2
      go_end0
      exact ⟨rfl, H.out _ ((Below.refl _ _).alloc (Nat.le_refl _) _)⟩
/-- The blocks that the machine may write. -/
def own (p mp : Nat) (tv : Value) (k : Nat) : Prop := k = p ∨ k = mp ∨ tv.ownBlock = some k
theorem Mach.unbase {W' : World} {m' : Mc} {e' v' : Int} {al' : List (Int × Value)} {A' : Option Addr} {c' : Nat} {tv' : Value} (h : Mach B S w0 W p mp m e v al A c tv) (k : Mach B (own p mp tv) W W' p mp m' e' v' al' A' c' tv') : Mach B S w0 W' p mp m' e' v' al' A' c' tv' ∧ Only (own p mp tv) W W' := by
  have hS : ∀ x, x < w0.heap.size → own p mp tv x → S x := fun x hx e => by
    rcases e with e | e | e
    · rw [e]; exact h.sp
    · rw [e]; exact h.sm
    · exact (h.st x e).elim id (fun h => by omega)
  refine ⟨⟨k.blk, k.map, k.vals, k.ns, k.nm, ⟨k.inp.1, k.inp.2.1, fun hn => ?_⟩, k.cap, k.tr, h.only.trans k.only hS, h.hB, h.sp, h.sm, fun g hg => ?_, h.sB, k.inB⟩, k.only⟩
  · obtain ⟨ad, ea, hc⟩ := k.inp.2.2 hn
    refine ⟨ad, ea, fun j hj => ?_⟩
    have h1 := hc j hj
    have hb : (ad.add j).block = ad.block := by unfold Addr.add; split <;> rfl
    have h2 := k.inB ad.block ad.off ad.spot ea hn
    rw [← h.only.cell (by rw [hb]; have := h.hB; omega) (fun hs => by rw [hb] at hs; have := h.sB _ hs; omega)]
    exact h1
  · rcases k.st g hg with hs | hs
    · rcases hs with e | e | e
      · left; rw [e]; exact h.sp
      · left; rw [e]; exact h.sm
      · exact h.st g e
    · right; have := h.only.size; omega
theorem spend_no2 (h : Mach B S w0 W p mp m e v al A c tv) (F : Nat) (hF : F ≤ m.steps) :
    Calls Try.prog 74 #[.pointer (some ⟨p, 0, none⟩), .int .i64 F] W fun ε W' => ε = .returned (.bool false) ∧ Mach B S w0 W' p mp m 2 v al A c tv ∧ Only (own p mp tv) W W' :=
  (spend_no h.rebase F hF).mono fun _ _ ⟨he, hk⟩ => ⟨he, h.unbase hk⟩
theorem spend_yes2 (h : Mach B S w0 W p mp m e v al A c tv) (F : Nat) (hF : m.steps < F) (hs : F ≤ 1048576) :
    Calls Try.prog 74 #[.pointer (some ⟨p, 0, none⟩), .int .i64 F] W fun ε W' => ε = .returned (.bool true) ∧ Mach B S w0 W' p mp m.tick e v al A c tv ∧ Only (own p mp tv) W W' :=
  (spend_yes h.rebase F hF hs).mono fun _ _ ⟨he, hk⟩ => ⟨he, h.unbase hk⟩
theorem enter2 (h : Mach B S w0 W p mp m e v al A c tv) (b : S31) (hb : b.f1 = []) (A1 A2 : Option Addr) (c1 c2 : Nat) (fr : Int) :
    Calls Try.prog 73 #[.pointer (some ⟨p, 0, none⟩), bv b A1 c1 A2 c2, .int .i64 fr] W fun ε W' => ε = .returned (.tuple #[]) ∧ Mach B S w0 W' p mp m e v al A c tv ∧ Only (own p mp tv) W W' :=
  (enter_none h.rebase b hb A1 A2 c1 c2 fr).mono fun _ _ ⟨he, hk⟩ => ⟨he, h.unbase hk⟩
theorem step_yes2 (h : Mach B S w0 W p mp m e v al A c tv) (x : S38) (m' : Mc) (hs : stepM x m = some m') (h6 : 0 ≤ x.f6 ∧ x.f6 < 16) (ht : m.trace.length ≤ 1048576) :
    Calls Try.prog 75 #[.pointer (some ⟨p, 0, none⟩), iv x] W fun ε W' => ε = .returned (.bool true) ∧ (∃ al' A' c' tv', Mach B S w0 W' p mp m' e v al' A' c' tv') ∧ Only (own p mp tv) W W' :=
  (step_all h.rebase x h6 ht).mono fun _ _ hk => by
    obtain ⟨al', A', c', tv', hk⟩ := hk
    rw [hs] at hk
    exact ⟨hk.1, ⟨_, _, _, _, (h.unbase hk.2).1⟩, (h.unbase hk.2).2⟩
theorem step_no2 (h : Mach B S w0 W p mp m e v al A c tv) (x : S38) (hs : stepM x m = none) (h6 : 0 ≤ x.f6 ∧ x.f6 < 16) (ht : m.trace.length ≤ 1048576) :
    Calls Try.prog 75 #[.pointer (some ⟨p, 0, none⟩), iv x] W fun ε W' => ε = .returned (.bool false) ∧ (∃ al' A' c' tv', Mach B S w0 W' p mp m e v al' A' c' tv') ∧ Only (own p mp tv) W W' :=
  (step_all h.rebase x h6 ht).mono fun _ _ hk => by
    obtain ⟨al', A', c', tv', hk⟩ := hk
    rw [hs] at hk
    exact ⟨hk.1, ⟨_, _, _, _, (h.unbase hk.2).1⟩, (h.unbase hk.2).2⟩
end
end Go.Proofs.Ytffnkbicbfjnpaa
