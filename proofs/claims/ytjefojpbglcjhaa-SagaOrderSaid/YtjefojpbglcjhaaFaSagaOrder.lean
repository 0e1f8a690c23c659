/- SagaOrder: the closed facts of its row, each by itself. No statement of the seat is proved here. -/
import Derived.Test.YtjefojpbglcjhaaFc
namespace Go.Proofs.Ytjefojpbglcjhaa.FaSagaOrder
open Go
theorem k0 : (Rows.sagaOrderRow.wf (OpenSpec.ofChange Rows.sagaOrderSpec)) = true := by kernel_rfl
theorem k3 : (Try.f4.params.all (Try.prog.readableRec ·)) = true := by kernel_rfl
theorem k4 : (namedTie Try.prog Rows.sagaOrderRow.named Rows.sagaOrderSpec.vars) = true := by kernel_rfl
theorem k5 : ((Rows.sagaOrderRow.stops == [])) = true := by kernel_rfl
theorem k7 : ((Rows.sagaOrderRow.knobs == [])) = true := by kernel_rfl
theorem k9 : ((Rows.sagaOrderRow.inPlace == Try.prog.inPlace 4)) = true := by kernel_rfl
theorem k10 : ((Rows.sagaOrderRow.unfollowed == Try.prog.unfollowed 4)) = true := by kernel_rfl
theorem k11 : ((Rows.sagaOrderRow.recurses == Try.prog.recurses 4)) = true := by kernel_rfl
theorem k12 : ((Rows.sagaOrderRow.named == Try.prog.varsNamed 4)) = true := by kernel_rfl
theorem k13 : ((Rows.sagaOrderRow.maps == (Try.f4.params.toList ++ Rows.sagaOrderSpec.plain.varTypes Try.prog).any (Try.prog.mapsRec ·))) = true := by kernel_rfl
theorem k14 : ((Rows.sagaOrderRow.ifaces == (Try.f4.params.toList ++ Rows.sagaOrderSpec.plain.varTypes Try.prog).any (Try.prog.ifacesRec ·))) = true := by kernel_rfl
theorem k15 : ((Rows.sagaOrderRow.mapsOut == Try.prog.mapsAmong Try.f4.resultTypes.toList)) = true := by kernel_rfl
theorem k16 : ((Rows.sagaOrderRow.loops == (Try.f4.params.toList ++ Rows.sagaOrderSpec.plain.varTypes Try.prog).any (Try.prog.loopsFrom ·))) = true := by kernel_rfl
theorem k17 : ((Rows.sagaOrderRow.wideKeys == (Try.f4.params.toList ++ Rows.sagaOrderSpec.plain.varTypes Try.prog ++ Try.f4.resultTypes.toList).any (Try.prog.wideKeysFrom ·))) = true := by kernel_rfl
theorem k18 : (Rows.sagaOrderSpec.vars.all (Try.prog.varReadable ·)) = true := by kernel_rfl
theorem k19 : (Try.f4.resultTypes.all (fun t => Try.prog.readableRec t && decide (t < Try.prog.types.size))) = true := by kernel_rfl
theorem k20 : ((Rows.sagaOrderRow.ifacesOut == Try.f4.resultTypes.toList.any (Try.prog.ifacesRec ·))) = true := by kernel_rfl
theorem k21 : ((Rows.sagaOrderRow.loopsOut == Try.f4.resultTypes.toList.any (Try.prog.loopsFrom ·))) = true := by kernel_rfl
theorem k23 : (Rows.sagaOrderRow.shortTexts.isNone) = true := by kernel_rfl
theorem k29 : ((Rows.sagaOrderRow.pinned == Rows.sagaOrderRow.pinnedBy)) = true := by kernel_rfl
theorem k30 : ((Rows.sagaOrderRow.veiled == (Try.f4.params.toList ++ Rows.sagaOrderSpec.plain.varTypes Try.prog ++ Try.f4.resultTypes.toList).any (Try.prog.veiledRec ·))) = true := by kernel_rfl
theorem k31 : (Rows.sagaOrderRow.veiledFits Try.prog Try.f4.params.toList (Try.f4.params.toList ++ Rows.sagaOrderSpec.plain.varTypes Try.prog ++ Try.f4.resultTypes.toList)) = true := by kernel_rfl
open Facts in
theorem closed : joinedFacts Try.prog 4 Try.f4 Rows.sagaOrderSpec Rows.sagaOrderRow = true := (and2 (and2 (and2 (and2 (and2 (and2 (and2 (and2 (and2 (and2 (and2 (and2 (and2 (and2 (and2 (and2 (and2 (and2 (and2 (and2 (and2 (and2 (and2 (and2 (and2 (and2 (and2 (and2 (and2 (and2 (and2 k0 Facts.s1) Facts.s2) k3) k4) k5) Facts.s6) k7) Facts.s8) k9) k10) k11) k12) k13) k14) k15) k16) k17) k18) k19) k20) k21) Facts.s22) k23) Facts.s24) Facts.s25) Facts.s26) Facts.s27) (by kernel_rfl)) k29) k30) k31)
theorem own : ownKnob Try.prog.godebug = none := by kernel_rfl
theorem named : Try.pinned.checked.prog.funcNamed Rows.sagaOrderRow.func = some 4 := by kernel_rfl
theorem inst : Try.f4.isInstance Try.pinned.checked.prog Rows.sagaOrderRow.origin Rows.sagaOrderRow.targs := of_decide_eq_true (by kernel_rfl)
theorem wrap : Try.f4.isWrapper Try.pinned.checked.prog Rows.sagaOrderRow.wrapper Rows.sagaOrderRow.mainSum := by unfold Func.isWrapper; first | (rw [if_pos (by decide +kernel)]; kernel_rfl) | (rw [if_neg (by decide +kernel)]; exact ⟨rfl, rfl⟩)
end Go.Proofs.Ytjefojpbglcjhaa.FaSagaOrder
