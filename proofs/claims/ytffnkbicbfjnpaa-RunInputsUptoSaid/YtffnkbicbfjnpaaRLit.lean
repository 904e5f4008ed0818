/- A row of a kind, out of a block that is known whole. No condition. -/
import Derived.Test.YtffnkbicbfjnpaaROut
namespace Go.Proofs.Ytffnkbicbfjnpaa
open Go.RowKit Go.Proofs.Ytffnkbicbfjnpaa.PRunFuel
open Go.Proofs.YtffnkbicbfjnpaaW.PrintWords (ReadsInt rd Kd)
theorem flat_at {α : Type} (sz : Nat) : ∀ (ps : List (α × List Value)), (∀ p ∈ ps, p.2.length = sz) → ∀ (j : Nat) (p : α × List Value), ps[j]? = some p → ∀ (i : Nat) (u : Value), p.2[i]? = some u → (ps.flatMap (·.2))[j * sz + i]? = some u
  | [], _, j, p, hp, _, _, _ => by simp at hp
  | q :: ps, h, 0, p, hp, i, u, hu => by
    simp at hp; subst hp
    have := (List.getElem?_eq_some_iff.1 hu).1
    rw [List.flatMap_cons, Nat.zero_mul, Nat.zero_add, List.getElem?_append_left this]; exact hu
  | q :: ps, h, j + 1, p, hp, i, u, hu => by
    have hq := h q (by simp)
    rw [List.flatMap_cons, List.getElem?_append_right (by rw [hq, Nat.succ_mul]; omega), hq, show (j + 1) * sz + i - sz = j * sz + i by rw [Nat.succ_mul]; omega]
    exact flat_at sz ps (fun p hp => h p (by simp [hp])) j p (by simpa using hp) i u hu
theorem C_lit {α : Type} {d : Kd α} {w : World} {g : Nat} {e : TypeId} {fr : Nat × Nat} (ps : List (α × List Value)) (cur : Array Value) (h : w.heap[g]? = some (.cells cur e fr)) (hc : cur = (ps.flatMap (·.2)).toArray) (hk : ∀ p ∈ ps, d.K w p.1 p.2) (hm : ps.length ≤ 9223372036854775807) :
    d.C w (some ⟨g, 0, none⟩) ps.length (ps.map (·.1)) := by
  refine ⟨by simp, by simpa using hm, fun _ => ⟨_, rfl, fun j x hj => ?_⟩⟩
  rw [List.getElem?_map] at hj
  cases hp : ps[j]? with
  | none => rw [hp] at hj; cases hj
  | some p =>
    rw [hp] at hj
    obtain rfl : p.1 = x := Option.some.inj hj
    have hmem := List.mem_of_getElem? hp
    refine ⟨p.2, d.K_len (hk p hmem), hk p hmem, fun i u hu => ?_⟩
    have hf := flat_at d.sz ps (fun p hp => d.K_len (hk p hp)) j p hp i u hu
    rw [Addr.add_lit, Nat.zero_add, cell_of_blk _ _ _ _ _ h, hc]
    simpa using hf
/-- An instruction's cells. -/
def cells38 (x : S38) : List Value := [.int .u8 x.f0, .int .u8 x.f1, .int .i64 x.f2, .int .i64 x.f3, .int .i64 x.f4, .int .i64 x.f5, .int .i64 x.f6]
theorem C38_lit {w : World} {g : Nat} {e : TypeId} {fr : Nat × Nat} (l : List S38) (cur : Array Value) (h : w.heap[g]? = some (.cells cur e fr)) (hc : cur = (l.flatMap cells38).toArray) (hm : l.length ≤ 9223372036854775807) : k38.C w (some ⟨g, 0, none⟩) l.length l := by
  have := C_lit (d := k38) (w := w) (g := g) (e := e) (fr := fr) (l.map fun x => (x, cells38 x)) cur h (by rw [hc, List.flatMap_map]) (fun p hp => by
    obtain ⟨x, _, rfl⟩ := List.mem_map.1 hp
    exact k38.K_of_M (k38_mkM w 0 (fun _ => True) x)) (by simpa using hm)
  simpa [List.map_map, Function.comp_def] using this
/-- A block's cells, its instructions at an address. -/
def cells31 (x : S31) (A : Option Addr) (c : Nat) : List Value := [.int .i64 x.f0, .slice none 0 0, .slice A x.f2.length c, .int .u8 x.f3.f0, .int .i64 x.f3.f1, .int .i64 x.f3.f2, .int .i64 x.f3.f3]
theorem K31_lit {w : World} (x : S31) (h1 : x.f1 = []) {A : Option Addr} {c : Nat} (h2 : k38.C w A x.f2.length x.f2) (hc : x.f2.length ≤ c) : k31.K w x (cells31 x A c) := by
  have := k31_mk w x (A1 := none) (c1 := 0) (by rw [h1]; exact Nat.le_refl _) (by rw [h1]; exact ⟨rfl, by simp, fun h => absurd h (Nat.lt_irrefl 0)⟩) (A2 := A) (c2 := c) hc h2
  rw [h1] at this
  exact this
end Go.Proofs.Ytffnkbicbfjnpaa
