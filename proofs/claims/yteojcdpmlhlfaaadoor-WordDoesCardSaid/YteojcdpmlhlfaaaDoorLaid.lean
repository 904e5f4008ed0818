/- What the listed table word.names holds, cell by cell: twelve texts. Condition: the row's list is met. -/
import Derived.Test.YteojcdpmlhlfaaaDoorRows
import Derived.Deep.DeepHandedRow
import Derived.Lib.LaidTab
import Derived.WalkKit
import Derived.ProofKit
import Derived.OpenShut
namespace Go.Proofs.YteojcdpmlhlfaaaDoor
open Go.ChangeShapes Go.WideShapes Go.ChangeAt Go.RowKit

def strData {H : Type} (ss : List (List UInt8)) : DataW H := .agg (ss.map fun s => .lit (.string s))
theorem cells_of_strs {H : Type} {enc : TypeId × Value → H} {P : Program} {w : World} {base : Nat} {sp : Nat → Bool} {held : Bool} {fuel : Nat} {t e : TypeId} {n : Nat} {cs : List Value} {ss : List (List UInt8)} {p : List MemPlace}
    (ht : P.underlying t = some (.array n e)) (he : P.underlying e = some .string) (hce : P.cellsOf e = 1) (hct : P.cellsOf t = n)
    (h : DataW.trod enc P w base sp held fuel t cs = some (strData ss, p)) : cs = ss.map fun s => Value.string ⟨s.toArray⟩ := by
  cases fuel with
  | zero => simp [DataW.trod] at h
  | succ fuel =>
    simp only [DataW.trod, ht, hce, hct, Nat.mul_one] at h
    split at h
    · rename_i hl
      obtain ⟨xs, hm, hx⟩ := Option.map_eq_some_iff.1 h
      have hxs : xs.map (·.1) = ss.map fun s => (DataW.lit (.string s) : DataW H) := by
        have := congrArg Prod.fst hx
        simpa [strData] using this
      have hxl : xs.length = n := by simpa using Lib.mapM_length hm
      have hzl : ss.length = n := by
        have := congrArg List.length hxs
        simp at this
        omega
      apply List.ext_getElem?
      intro i
      by_cases hi : i < n
      · obtain ⟨b, hb, hf⟩ := Lib.mapM_at hm i i (by simp [hi])
        obtain ⟨s, hc, rfl, _⟩ := DataW.trod_string he hf
        have h1 : cs[i]? = some (.string s) := by
          have := congrArg (·[0]?) hc
          simpa [List.getElem?_take, List.getElem?_drop] using this
        have h2 : (xs.map (·.1))[i]? = some (DataW.lit (.string s.data.toList) : DataW H) := by simp [hb]
        rw [hxs] at h2
        simp only [List.getElem?_map, Option.map_eq_some_iff, DataW.lit.injEq, Lit.string.injEq] at h2
        obtain ⟨s', hs', rfl⟩ := h2
        simp [h1, hs']
      · rw [List.getElem?_eq_none (by omega), List.getElem?_eq_none (by simp; omega)]
    · cases h
theorem strs_of_head {P : Program} {W : World} {name : String} {ss : List (List UInt8)} {rest : List (String × DataW Unit)} {g : Nat} {t e : TypeId} {n : Nat}
    (hg : P.globalNamed name = some g) (hty : (P.globals[g]?).map (·.type) = some t) (ht : P.underlying t = some (.array n e)) (he : P.underlying e = some .string) (hce : P.cellsOf e = 1) (hct : P.cellsOf t = n)
    (h : laidMet P ((name, strData ss) :: rest) W) (i : Nat) (s : List UInt8) (hi : ss[i]? = some s) : W.cell? ⟨g, i, none⟩ = some (.string ⟨s.toArray⟩) := by
  obtain ⟨ps, ⟨g', t', cs, fuel, p, q, hg', ht', hvar, hd, _, _⟩, _⟩ := h
  obtain rfl := Option.some.inj (hg.symm.trans hg')
  obtain rfl := Option.some.inj (hty.symm.trans ht')
  have := World.var?_cell hg hvar i
  rw [← Array.getElem?_toList, cells_of_strs ht he hce hct hd] at this
  simpa [hi] using this

theorem heap_of_head {P : Program} {W : World} {name : String} {ss : List (List UInt8)} {rest : List (String × DataW Unit)} {g : Nat} {t e : TypeId} {n : Nat}
    (hg : P.globalNamed name = some g) (hty : (P.globals[g]?).map (·.type) = some t) (ht : P.underlying t = some (.array n e)) (he : P.underlying e = some .string) (hce : P.cellsOf e = 1) (hct : P.cellsOf t = n)
    (h : laidMet P ((name, strData ss) :: rest) W) : ∃ t fr, W.heap[g]? = some (.cells (ss.map fun s => Value.string ⟨s.toArray⟩).toArray t fr) := by
  obtain ⟨ps, ⟨g', t', cs, fuel, p, q, hg', ht', hvar, hd, _, _⟩, _⟩ := h
  obtain rfl := Option.some.inj (hg.symm.trans hg')
  obtain rfl := Option.some.inj (hty.symm.trans ht')
  have hcs : cs = (ss.map fun s => Value.string ⟨s.toArray⟩).toArray := by
    apply Array.ext'
    rw [cells_of_strs ht he hce hct hd]
  subst hcs
  simp only [World.var?, hg, Option.bind_some] at hvar
  split at hvar
  · rename_i c t fr hh
    exact ⟨t, fr, by rw [hh]; simp at hvar; rw [hvar]⟩
  · cases hvar

def wordNames : List (List UInt8) := [[97, 100, 100], [115, 117, 98], [109, 117, 108], [100, 105, 118], [114, 101, 109], [97, 110, 100], [111, 114], [120, 111, 114], [115, 104, 108], [115, 104, 114], [101, 113], [108, 116]]
theorem gTab : Tryd.prog.globalNamed "refinery/word.names" = some 0 := by kernel_rfl
theorem gTabType : (Tryd.prog.globals[0]?).map (·.type) = some 45 := by kernel_rfl
theorem cells45 : Tryd.prog.cellsOf 45 = 12 := by kernel_rfl
theorem cells9 : Tryd.prog.cellsOf 9 = 1 := by kernel_rfl
theorem laid_names {W : World} (h : laidMetH Tryd.prog [("refinery/word.names", Rows.laid_refinery_word_names)] W) (i : Nat) (s : List UInt8) (hi : wordNames[i]? = some s) : W.cell? ⟨0, i, none⟩ = some (.string ⟨s.toArray⟩) :=
  strs_of_head (ss := wordNames) (rest := []) gTab gTabType Tryd.underlying45 Tryd.underlying9 cells9 cells45 h i s hi
theorem laid_heap {W : World} (h : laidMetH Tryd.prog [("refinery/word.names", Rows.laid_refinery_word_names)] W) : ∃ t fr, W.heap[0]? = some (.cells (wordNames.map fun s => Value.string ⟨s.toArray⟩).toArray t fr) :=
  heap_of_head (ss := wordNames) (rest := []) gTab gTabType Tryd.underlying45 Tryd.underlying9 cells9 cells45 h
end Go.Proofs.YteojcdpmlhlfaaaDoor
