/- ArbiterSolo: for every length, every row of acts and every site the law returns true, and its arguments read as they did. No condition. -/
import Derived.Test.YtjefojpbglcjhaaSa
import Derived.Test.YtjefojpbglcjhaaLp
import Derived.Test.YtjefojpbglcjhaaFaArbiterSolo
namespace Go.Proofs.Ytjefojpbglcjhaa
open Go Go.VC Go.ChangeShapes Go.WideShapes Go.ChangeAt Go.RowKit
set_option linter.unusedVariables false
namespace SoloRow
set_option maxRecDepth 100000 in
theorem lifted (os : Os) (started : os.Started) (H : Type) (enc : TypeId × Value → H) :
    ReturnsInHanded {} Try.checked os 3 .any (Rows.arbiterSoloSpec.pre6 enc Try.prog Try.f3 Rows.arbiterSoloRow.domain false) (Rows.arbiterSoloSpec.post enc Try.prog Try.f3 false true false false) := by
  refine returnsInHanded_of_change (C := Try.checked) FaArbiterSolo.own started (by kernel_rfl) Try.func3
    (ChangeSpec.witness6 (enc := enc) (C := Try.checked) false ⟨#[], #[.int .u64 0, .slice none 0 0, .int .i64 0], []⟩ 8 (by kernel_rfl) (by kernel_rfl) (by kernel_rfl) (by kernel_rfl)) ?_
  intro W base args ds gs before hval0 hW hcnd _
  have hval : ∀ (j : Nat) t v, Try.f3.params[j]? = some t → args[j]? = some v → Value.okWide Try.prog W .any base t v := hval0
  have hW' := hW
  obtain ⟨p, q, hA0, hV, rfl, hfz, hnd⟩ := hW
  have hA : DataW.TrodAll enc Try.prog W 0 (fun _ => true) true Try.f3.params.toList args.toList ds p := hA0
  rw [Try.params3] at hA hval
  obtain ⟨v0, vs0, d0, ds0, p0, q0, hargs, rfl, rfl, h0, r0⟩ := trodAll_cons hA
  obtain ⟨v1, vs1, d1, ds1, p1, q1, rfl, rfl, rfl, h1, r1⟩ := trodAll_cons r0
  obtain ⟨v2, vs2, d2, ds2, p2, q2, rfl, rfl, rfl, h2, r2⟩ := trodAll_cons r1
  obtain ⟨rfl, rfl, rfl⟩ := trodAll_nil r2
  obtain rfl : args = #[v0, v1, v2] := by cases args; simp_all
  obtain ⟨rfl, rfl⟩ := trodVars_none hV
  obtain ⟨a0, rfl, rfl, rfl, w0⟩ := open_int Try.underlying22 (hval 0 22 v0 rfl rfl) h0
  obtain ⟨a2, rfl, rfl, rfl, w2⟩ := open_int Try.underlying3 (hval 2 3 v2 rfl rfl) h2
  have hone : v1.oneCell' = true := by
    obtain ⟨p, n, c, e⟩ : ∃ p n c, v1 = .slice p n c := okWide_slice Try.underlying23 (hval 1 23 v1 rfl rfl)
    rw [e]
    rfl
  have hrd := Rd.of_trod h1
  obtain ⟨x1, hx⟩ : ∃ x, v1.cells.toList = [x] := by cases v1 <;> simp_all [Value.cells, Value.oneCell']
  have hvx := cells1 hx hone
  subst hvx
  rw [hx] at hrd
  obtain ⟨pa, n, c, acts, rfl, hnc, hcm, hacts, hwf⟩ := rd_acts hrd
  clear hA0 hval0
  simp only [Lit.wf, Bool.and_eq_true, decide_eq_true_eq] at w0 w2
  refine (law_calls (solo_con a0 a2 pa n c acts (allF W) hacts (u64_of w0) (i64_of w2))).mono fun e W' ⟨he, hg⟩ => ?_
  subst he
  exact ⟨_, rfl, law_post Facts.s1 rfl rfl rfl rfl (by kernel_rfl) Try.underlying4 (by decide +kernel) hW' hg⟩
theorem over : Rows.arbiterSoloRow.holds Try.pinned (OpenSpec.ofChange Rows.arbiterSoloSpec) :=
  OpenClaim.holds_of_wide 3 Try.f3 rfl rfl rfl rfl rfl rfl rfl ⟨rfl, rfl, rfl, rfl, rfl⟩ rfl rfl rfl rfl rfl FaArbiterSolo.named Try.func3 FaArbiterSolo.closed FaArbiterSolo.inst FaArbiterSolo.wrap
    (fun os started H enc _ => lifted os started H enc)
end SoloRow
theorem arbiterSolo_holds : Rows.ArbiterSoloSaid := SoloRow.over
#print axioms arbiterSolo_holds
end Go.Proofs.Ytjefojpbglcjhaa
