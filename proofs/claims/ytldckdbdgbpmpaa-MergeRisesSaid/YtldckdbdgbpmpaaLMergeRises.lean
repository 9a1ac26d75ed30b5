/- Proved here: the given statement MergeRisesSaid. No condition. -/
import Derived.Test.YtldckdbdgbpmpaaRows
import Derived.Test.YtldckdbdgbpmpaaLaws10d
namespace Go.Proofs.Ytldckdbdgbpmpaa.mergeRisesDone
open Go.ChangeShapes Go.WideShapes Go.ChangeAt Go.RowKit Go.AM

theorem own : ownKnob Try.prog.godebug = none := by kernel_rfl
theorem laidOut : laidOutB Try.prog = true := by kernel_rfl
def D0 : DTy := (.sl (.sl (.pr (.int .i64) (.pr (.int .i64) .un))))
theorem tyd0 : TyD Try.prog D0 22 := by
  simp only [D0, TyD, FldD]
  exact ⟨25, (by kernel_rfl), (by kernel_rfl), ⟨34, (by kernel_rfl), (by kernel_rfl), ⟨_, Try.underlying34, (by kernel_rfl), ⟨_, _, rfl, rfl, ⟨(by kernel_rfl), (by kernel_rfl)⟩, ⟨_, _, rfl, rfl, ⟨(by kernel_rfl), (by kernel_rfl)⟩, rfl⟩⟩⟩⟩⟩

set_option maxRecDepth 100000 in
theorem lifted (os : Os) (started : os.Started) (H : Type) (enc : TypeId × Value → H) :
    ReturnsInHanded {} Try.checked os 5 .any (Rows.mergeRisesSpec.pre6 enc Try.prog Try.f5 Rows.mergeRisesRow.domain false) (Rows.mergeRisesSpec.post enc Try.prog Try.f5 false true false false) := by
  refine returnsInHanded_of_change (C := Try.checked) own started (by kernel_rfl) Try.func5
    (ChangeSpec.witness6 (enc := enc) (C := Try.checked) false ⟨#[], #[.slice none 0 0], []⟩ 8 (by kernel_rfl) (by kernel_rfl) (by kernel_rfl) (by kernel_rfl)) ?_
  intro W base args ds gs before hval0 hW hcnd _
  have hval : ∀ (j : Nat) t v, Try.f5.params[j]? = some t → args[j]? = some v → Value.okWide Try.prog W .any base t v := hval0
  have hW' := hW
  obtain ⟨p, q, hA0, hV, rfl, hfz, hnd⟩ := hW
  have hA : DataW.TrodAll enc Try.prog W 0 (fun _ => true) true Try.f5.params.toList args.toList ds p := hA0
  rw [Try.params5] at hA hval
  obtain ⟨v0, vs0, d0, ds0, p0, q0, hargs, rfl, rfl, h0, r0⟩ := trodAll_cons hA
  obtain ⟨rfl, rfl, rfl⟩ := trodAll_nil r0
  obtain rfl : args = #[v0] := by cases args; simp_all
  obtain ⟨rfl, rfl⟩ := trodVars_none hV
  obtain ⟨a0, w0, ok0⟩ := open_arg tyd0 (hval 0 22 v0 rfl rfl) h0
  have hrep : repPs (lrows []) (fun _ => ⟨none, 0⟩) W X0 [argP D0 a0] [v0] := by
    simp only [repPs]
    exact ⟨v0, _, rfl, w0, rfl⟩
  clear hA0 hval0
  refine (law_walk (ps := [argP D0 a0]) (lawRises a0 ok0.1 (fun x hx => (ok0.2 x hx).1)) hrep).mono fun e W' ⟨he, bel⟩ => ?_
  subst he
  exact ⟨_, rfl, _, _, _, [], _, [], hW', trodAll_mk1 (shut_bool Try.underlying4 _), (trodAll_cons_mk (Below.trod laidOut (by kernel_rfl) (of_decide_eq_true (by kernel_rfl)) h0 bel (trod_lt' h0)) trodAll_mk0), rfl, bel.frame _, fun h => by cases h⟩

theorem over : Rows.mergeRisesRow.holds Try.pinned (OpenSpec.ofChange Rows.mergeRisesSpec) :=
  OpenClaim.holds_of_wide 5 Try.f5 rfl rfl rfl rfl rfl rfl rfl ⟨rfl, rfl, rfl, rfl, rfl⟩ rfl rfl rfl rfl rfl (by kernel_rfl) Try.func5 (by kernel_rfl)
    (of_decide_eq_true (by kernel_rfl)) (by unfold Func.isWrapper; first | (rw [if_pos (by decide +kernel)]; kernel_rfl) | (rw [if_neg (by decide +kernel)]; exact ⟨rfl, rfl⟩))
    (fun os started H enc _ => lifted os started H enc)

/-- the statement -/
theorem proved : Rows.MergeRisesSaid := over
end Go.Proofs.Ytldckdbdgbpmpaa.mergeRisesDone
