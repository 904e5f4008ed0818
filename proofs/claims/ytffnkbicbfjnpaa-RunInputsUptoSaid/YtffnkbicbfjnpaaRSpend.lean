/- What a machine's spend and cell come to. Conditions: the machine's form. -/
import Derived.Test.YtffnkbicbfjnpaaRMach
import Derived.WalkKit
import Derived.Deep.QuietTactic
import Derived.BigQuiet
import Derived.IntWalk
namespace Go.Proofs.Ytffnkbicbfjnpaa
open Go.RowKit Go.Proofs.Ytffnkbicbfjnpaa.PRunFuel
section
variable {B : Nat} {S : Nat → Prop} {w0 W : World} {p mp : Nat} {m : Mc} {e v : Int} {al : List (Int × Value)} {A : Option Addr} {c : Nat} {tv : Value}
theorem spend_no (h : Mach B S w0 W p mp m e v al A c tv) (F : Nat) (hF : F ≤ m.steps) :
    Calls Try.prog 74 #[.pointer (some ⟨p, 0, none⟩), .int .i64 F] W fun ε W' => ε = .returned (.bool false) ∧ Mach B S w0 W' p mp m 2 v al A c tv := by
  have c1 := h.c_s
  have f1 := h.frozen 82
  have c2 := h.c_e
  have ht : decide ((F : Int) ≤ (m.steps : Int)) = true := decide_eq_true (by omega)
  have H := Lib.hid (h.set_e 2)
  clear h
  go_enter Try.func74, Try.ntmps74
  go_wp2
  go_ret
  exact ⟨rfl, H.out⟩
theorem spend_yes (h : Mach B S w0 W p mp m e v al A c tv) (F : Nat) (hF : m.steps < F) (hs : F ≤ 1048576) :
    Calls Try.prog 74 #[.pointer (some ⟨p, 0, none⟩), .int .i64 F] W fun ε W' => ε = .returned (.bool true) ∧ Mach B S w0 W' p mp m.tick e v al A c tv := by
  have c1 := h.c_s
  have f1 := h.frozen 85
  have ht : decide ((F : Int) ≤ (m.steps : Int)) = false := decide_eq_false (by omega)
  have H := Lib.hid (h.set_s (m.steps + 1))
  clear h
  go_enter Try.func74, Try.ntmps74
  go_wp2
  go_ret
  exact ⟨rfl, H.out⟩
theorem cell_no (p : Nat) (W : World) (a : Int) (ha : ¬ (0 ≤ a ∧ a < 64)) :
    Calls Try.prog 110 #[.pointer (some ⟨p, 0, none⟩), .int .i64 a] W fun ε W' => ε = .returned (.tuple #[.pointer none, .bool false]) ∧ W = W' := by
  by_cases h0 : a < 0
  · have h1 : decide (a < 0) = true := decide_eq_true h0
    clear ha
    go_enter Try.func110, Try.ntmps110
    go_wp2
    go_ret2
    exact ⟨rfl, rfl⟩
  · have h1 : decide (a < 0) = false := decide_eq_false h0
    have h2 : decide (64 ≤ a) = true := decide_eq_true (by omega)
    clear ha
    go_enter Try.func110, Try.ntmps110
    go_wp2
    go_ret2
    exact ⟨rfl, rfl⟩
theorem cell_yes (p : Nat) (W : World) (k : Nat) (hk : k < 64) :
    Calls Try.prog 110 #[.pointer (some ⟨p, 0, none⟩), .int .i64 k] W fun ε W' => ε = .returned (.tuple #[.pointer (some ⟨p, 17 + k, none⟩), .bool true]) ∧ W = W' := by
  have h1 : decide ((k : Int) < 0) = false := decide_eq_false (by omega)
  have h2 : decide (64 ≤ (k : Int)) = false := decide_eq_false (by omega)
  have h3 : (k : Int) < 64 := by omega
  have h4 : (0 : Int) ≤ (k : Int) := by omega
  go_enter Try.func110, Try.ntmps110
  go_wp2
  go_ret2
  exact ⟨rfl, rfl⟩
end
end Go.Proofs.Ytffnkbicbfjnpaa
