/- refinerylaw10.LoopsDeep answers true at every input of bounded bulk: in how many loops each place is. Conditions: none beyond the row's own. -/
import Derived.Test.YtnkbbjeepdjamaaLDeW
import Derived.Test.YtnkbbjeepdjamaaGOpn
import Derived.Test.YtnkbbjeepdjamaaOpen
import Derived.Test.YtnkbbjeepdjamaaRows
import Derived.Test.YtnkbbjeepdjamaaClose
namespace Go.Proofs.Ytnkbbjeepdjamaa.loopsDeepUpto
open Go.ChangeShapes Go.WideShapes Go.ChangeAt Go.RowKit

theorem own : ownKnob Try.prog.godebug = none := by kernel_rfl
theorem laidOut : laidOutB Try.prog = true := by kernel_rfl

set_option maxRecDepth 100000 in
theorem contract (H : Type) (enc : TypeId × Value → H) (W : World) (base : Nat) (args : Array Value) (ds gs : List (DataW H)) (before : List MemPlace)
    (hval : ∀ (j : Nat) t v, Try.f15.params[j]? = some t → args[j]? = some v → Value.okWide Try.prog W .any base t v)
    (hW : DataW.Whole enc Try.prog Try.f15.params.toList Rows.loopsDeepSpec.vars false W args.toList ds gs before) (hk : Rows.uptoSmall H (ds ++ gs) = true) :
    Calls Try.prog 15 args W fun e W' => ∃ v, e = .returned v ∧ Rows.loopsDeepSpec.post enc Try.prog Try.f15 false true false false W args v W' := by
  have hW' := hW
  obtain ⟨p, q, hA0, hV, rfl, hfz, hnd⟩ := hW
  have hA : DataW.TrodAll enc Try.prog W 0 (fun _ => true) true Try.f15.params.toList args.toList ds p := hA0
  rw [Try.params15] at hA hval
  obtain ⟨v0, vs0, d0, ds0, p0, q0, hargs, rfl, rfl, h0, r0⟩ := trodAll_cons hA
  obtain ⟨v1, vs1, d1, ds1, p1, q1, rfl, rfl, rfl, h1, r1⟩ := trodAll_cons r0
  obtain ⟨v2, vs2, d2, ds2, p2, q2, rfl, rfl, rfl, h2, r2⟩ := trodAll_cons r1
  obtain ⟨rfl, rfl, rfl⟩ := trodAll_nil r2
  obtain rfl : args = #[v0, v1, v2] := by cases args; simp_all
  obtain ⟨rfl, rfl⟩ := trodVars_none hV
  obtain ⟨N, A, c, es, rfl, hN, hc, hE⟩ := open_small7 (hval 0 24 v0 rfl rfl) h0
  obtain ⟨A4, m4, c4, zs, rfl, _, _, hm4, hw4, hcs⟩ := open_nums Try.underlying63 Try.underlying5 (by kernel_rfl) (hval 1 63 v1 rfl rfl) h1
  obtain ⟨x, rfl, _, _, w_x⟩ := open_int Try.underlying74 (hval 2 74 v2 rfl rfl) h2
  refine (lde_calls A4 m4 c4 zs hm4 x (bd_i8 w_x) N A c es W (u8l_of (fun z hz => bd_u8 (hw4 z hz)) hcs)).mono fun e W' ⟨he, hb⟩ => ?_
  subst he
  exact ⟨_, rfl, law_post laidOut (by kernel_rfl) (by kernel_rfl) Try.underlying4 rfl rfl hW' (hb)⟩

set_option maxRecDepth 100000 in
theorem lifted (os : Os) (started : os.Started) (H : Type) (enc : TypeId × Value → H) (F : Stop.Interp) :
    ReturnsInHanded {} Try.checked os 15 .any ((Rows.OpenSpec.upto Rows.loopsDeepSpec).pre6 enc Try.prog Try.f15 Rows.loopsDeepUptoRow.domain false) (((Rows.OpenSpec.upto Rows.loopsDeepSpec).at F).post enc Try.prog Try.f15 false true false false) := by
  refine returnsInHanded_of_cond (C := Try.checked) (s := Rows.OpenSpec.upto Rows.loopsDeepSpec) (k := Rows.uptoSmall) rfl own started (by kernel_rfl) Try.func15
    (OpenSpec.witness (enc := enc) (C := Try.checked) (s := Rows.OpenSpec.upto Rows.loopsDeepSpec) (k := Rows.uptoSmall) rfl false ⟨#[], #[.agg #[.int .u8 0, .slice none 0 0], .slice none 0 0, .int .i8 0], []⟩ 8 (by kernel_rfl) (by kernel_rfl) (by kernel_rfl)
      (x := ([.agg [.lit (.int .u8 0), .nil], .nil, .lit (.int .i8 0)], [], [])) (by kernel_rfl) rfl (by kernel_rfl)) ?_
  intro W base args ds gs before hval hW _ hk _
  exact contract H enc W base args ds gs before hval hW hk

theorem said : Rows.LoopsDeepUptoSaid :=
  OpenClaim.holds_of_cond 15 Try.f15 rfl rfl rfl rfl rfl rfl rfl ⟨rfl, rfl, rfl, rfl, rfl⟩ rfl rfl rfl rfl rfl (by kernel_rfl) Try.func15 (by kernel_rfl)
    (of_decide_eq_true (by kernel_rfl)) (by unfold Func.isWrapper; first | (rw [if_pos (by decide +kernel)]; kernel_rfl) | (rw [if_neg (by decide +kernel)]; exact ⟨rfl, rfl⟩))
    (fun os started H enc _ F => lifted os started H enc F)
end Go.Proofs.Ytnkbbjeepdjamaa.loopsDeepUpto
namespace Go.Proofs.Ytnkbbjeepdjamaa
theorem loopsDeepUpto_holds : Rows.LoopsDeepUptoSaid := loopsDeepUpto.said
end Go.Proofs.Ytnkbbjeepdjamaa
