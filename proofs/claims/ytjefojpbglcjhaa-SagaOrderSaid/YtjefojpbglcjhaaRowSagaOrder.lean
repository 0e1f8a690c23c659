/- SagaOrder: whatever its arguments are the law returns true, and they read as they did. No condition. -/
import Derived.Test.YtjefojpbglcjhaaSl
import Derived.Test.YtjefojpbglcjhaaLq
import Derived.Test.YtjefojpbglcjhaaLp
import Derived.Test.YtjefojpbglcjhaaFaSagaOrder
namespace Go.Proofs.Ytjefojpbglcjhaa
open Go Go.VC Go.ChangeShapes Go.WideShapes Go.ChangeAt Go.RowKit
set_option linter.unusedVariables false
namespace RowSagaOrder
set_option maxRecDepth 100000 in
theorem lifted (os : Os) (started : os.Started) (H : Type) (enc : TypeId × Value → H) :
    ReturnsInHanded {} Try.checked os 4 .any (Rows.sagaOrderSpec.pre6 enc Try.prog Try.f4 Rows.sagaOrderRow.domain false) (Rows.sagaOrderSpec.post enc Try.prog Try.f4 false true false false) := by
  refine returnsInHanded_of_change (C := Try.checked) FaSagaOrder.own started (by kernel_rfl) Try.func4
    (ChangeSpec.witness6 (enc := enc) (C := Try.checked) false ⟨#[], #[.slice none 0 0, .slice none 0 0], []⟩ 8 (by kernel_rfl) (by kernel_rfl) (by kernel_rfl) (by kernel_rfl)) ?_
  intro W base args ds gs before hval0 hW hcnd _
  have hval : ∀ (j : Nat) t v, Try.f4.params[j]? = some t → args[j]? = some v → Value.okWide Try.prog W .any base t v := hval0
  have hW' := hW
  obtain ⟨p, q, hA0, hV, rfl, hfz, hnd⟩ := hW
  have hA : DataW.TrodAll enc Try.prog W 0 (fun _ => true) true Try.f4.params.toList args.toList ds p := hA0
  rw [Try.params4] at hA hval
  obtain ⟨v0, vs0, d0, ds0, p0, q0, hargs, rfl, rfl, h0, r0⟩ := trodAll_cons hA
  obtain ⟨v1, vs1, d1, ds1, p1, q1, rfl, rfl, rfl, h1, r1⟩ := trodAll_cons r0
  obtain ⟨rfl, rfl, rfl⟩ := trodAll_nil r1
  obtain rfl : args = #[v0, v1] := by cases args; simp_all
  obtain ⟨rfl, rfl⟩ := trodVars_none hV
  obtain ⟨x0, hx0⟩ := okWide_slice1 Try.underlying44 (hval 0 44 v0 rfl rfl)
  have hrd0 := Rd.of_trod h0
  rw [hx0.1] at hrd0
  obtain rfl := hx0.2
  obtain ⟨pa0, n0, c0, steps0, rfl, hnc0, hcm0, hP0, hwf0⟩ := rd_plan hrd0
  obtain ⟨x1, hx1⟩ := okWide_slice1 Try.underlying45 (hval 1 45 v1 rfl rfl)
  have hrd1 := Rd.of_trod h1
  rw [hx1.1] at hrd1
  obtain rfl := hx1.2
  obtain ⟨pa1, n1, c1, evs1, rfl, hnc1, hcm1, hE1⟩ := rd_evs hrd1
  clear hA0 hval0
  refine (law_calls' (so_con pa0 n0 c0 steps0 pa1 n1 c1 evs1 (allF W) hP0 hE1)).mono fun e W' ⟨he, hg⟩ => ?_
  subst he
  exact ⟨_, rfl, law_post Facts.s1 rfl rfl rfl rfl (by kernel_rfl) Try.underlying4 (by decide +kernel) hW' hg⟩
theorem over : Rows.sagaOrderRow.holds Try.pinned (OpenSpec.ofChange Rows.sagaOrderSpec) :=
  OpenClaim.holds_of_wide 4 Try.f4 rfl rfl rfl rfl rfl rfl rfl ⟨rfl, rfl, rfl, rfl, rfl⟩ rfl rfl rfl rfl rfl FaSagaOrder.named Try.func4 FaSagaOrder.closed FaSagaOrder.inst FaSagaOrder.wrap
    (fun os started H enc _ => lifted os started H enc)
end RowSagaOrder
theorem sagaOrder_holds : Rows.SagaOrderSaid := RowSagaOrder.over
#print axioms sagaOrder_holds
end Go.Proofs.Ytjefojpbglcjhaa
