/- ArbiterEpochs: whatever its arguments are the law returns true, and they read as they did. No condition. -/
import Derived.Test.YtjefojpbglcjhaaSb
import Derived.Test.YtjefojpbglcjhaaLp
import Derived.Test.YtjefojpbglcjhaaFaArbiterEpochs
namespace Go.Proofs.Ytjefojpbglcjhaa
open Go Go.VC Go.ChangeShapes Go.WideShapes Go.ChangeAt Go.RowKit
set_option linter.unusedVariables false
namespace RowArbiterEpochs
set_option maxRecDepth 100000 in
theorem lifted (os : Os) (started : os.Started) (H : Type) (enc : TypeId × Value → H) :
    ReturnsInHanded {} Try.checked os 8 .any (Rows.arbiterEpochsSpec.pre6 enc Try.prog Try.f8 Rows.arbiterEpochsRow.domain false) (Rows.arbiterEpochsSpec.post enc Try.prog Try.f8 false true false false) := by
  refine returnsInHanded_of_change (C := Try.checked) FaArbiterEpochs.own started (by kernel_rfl) Try.func8
    (ChangeSpec.witness6 (enc := enc) (C := Try.checked) false ⟨#[], #[.slice none 0 0], []⟩ 8 (by kernel_rfl) (by kernel_rfl) (by kernel_rfl) (by kernel_rfl)) ?_
  intro W base args ds gs before hval0 hW hcnd _
  have hval : ∀ (j : Nat) t v, Try.f8.params[j]? = some t → args[j]? = some v → Value.okWide Try.prog W .any base t v := hval0
  have hW' := hW
  obtain ⟨p, q, hA0, hV, rfl, hfz, hnd⟩ := hW
  have hA : DataW.TrodAll enc Try.prog W 0 (fun _ => true) true Try.f8.params.toList args.toList ds p := hA0
  rw [Try.params8] at hA hval
  obtain ⟨v0, vs0, d0, ds0, p0, q0, hargs, rfl, rfl, h0, r0⟩ := trodAll_cons hA
  obtain ⟨rfl, rfl, rfl⟩ := trodAll_nil r0
  obtain rfl : args = #[v0] := by cases args; simp_all
  obtain ⟨rfl, rfl⟩ := trodVars_none hV
  obtain ⟨x0, hx0⟩ := okWide_slice1 Try.underlying23 (hval 0 23 v0 rfl rfl)
  have hrd0 := Rd.of_trod h0
  rw [hx0.1] at hrd0
  obtain rfl := hx0.2
  obtain ⟨pa0, n0, c0, acts0, rfl, hnc0, hcm0, hacts0, hwf0⟩ := rd_acts hrd0
  clear hA0 hval0
  refine (law_calls' (ep_con pa0 n0 c0 acts0 (allF W) hacts0)).mono fun e W' ⟨he, hg⟩ => ?_
  subst he
  exact ⟨_, rfl, law_post Facts.s1 rfl rfl rfl rfl (by kernel_rfl) Try.underlying4 (by decide +kernel) hW' hg⟩
theorem over : Rows.arbiterEpochsRow.holds Try.pinned (OpenSpec.ofChange Rows.arbiterEpochsSpec) :=
  OpenClaim.holds_of_wide 8 Try.f8 rfl rfl rfl rfl rfl rfl rfl ⟨rfl, rfl, rfl, rfl, rfl⟩ rfl rfl rfl rfl rfl FaArbiterEpochs.named Try.func8 FaArbiterEpochs.closed FaArbiterEpochs.inst FaArbiterEpochs.wrap
    (fun os started H enc _ => lifted os started H enc)
end RowArbiterEpochs
theorem arbiterEpochs_holds : Rows.ArbiterEpochsSaid := RowArbiterEpochs.over
#print axioms arbiterEpochs_holds
end Go.Proofs.Ytjefojpbglcjhaa
