/- ArbiterEpochs: the closed facts of its row, each by itself. No statement of the seat is proved here. -/
import Derived.Test.YtjefojpbglcjhaaFc
namespace Go.Proofs.Ytjefojpbglcjhaa.FaArbiterEpochs
open Go
theorem k0 : (Rows.arbiterEpochsRow.wf (OpenSpec.ofChange Rows.arbiterEpochsSpec)) = true := by kernel_rfl
theorem k3 : (Try.f8.params.all (Try.prog.readableRec ·)) = true := by kernel_rfl
theorem k4 : (namedTie Try.prog Rows.arbiterEpochsRow.named Rows.arbiterEpochsSpec.vars) = true := by kernel_rfl
theorem k5 : ((Rows.arbiterEpochsRow.stops == [])) = true := by kernel_rfl
theorem k7 : ((Rows.arbiterEpochsRow.knobs == [])) = true := by kernel_rfl
theorem k9 : ((Rows.arbiterEpochsRow.inPlace == Try.prog.inPlace 8)) = true := by kernel_rfl
theorem k10 : ((Rows.arbiterEpochsRow.unfollowed == Try.prog.unfollowed 8)) = true := by kernel_rfl
theorem k11 : ((Rows.arbiterEpochsRow.recurses == Try.prog.recurses 8)) = true := by kernel_rfl
theorem k12 : ((Rows.arbiterEpochsRow.named == Try.prog.varsNamed 8)) = true := by kernel_rfl
theorem k13 : ((Rows.arbiterEpochsRow.maps == (Try.f8.params.toList ++ Rows.arbiterEpochsSpec.plain.varTypes Try.prog).any (Try.prog.mapsRec ·))) = true := by kernel_rfl
theorem k14 : ((Rows.arbiterEpochsRow.ifaces == (Try.f8.params.toList ++ Rows.arbiterEpochsSpec.plain.varTypes Try.prog).any (Try.prog.ifacesRec ·))) = true := by kernel_rfl
theorem k15 : ((Rows.arbiterEpochsRow.mapsOut == Try.prog.mapsAmong Try.f8.resultTypes.toList)) = true := by kernel_rfl
theorem k16 : ((Rows.arbiterEpochsRow.loops == (Try.f8.params.toList ++ Rows.arbiterEpochsSpec.plain.varTypes Try.prog).any (Try.prog.loopsFrom ·))) = true := by kernel_rfl
theorem k17 : ((Rows.arbiterEpochsRow.wideKeys == (Try.f8.params.toList ++ Rows.arbiterEpochsSpec.plain.varTypes Try.prog ++ Try.f8.resultTypes.toList).any (Try.prog.wideKeysFrom ·))) = true := by kernel_rfl
theorem k18 : (Rows.arbiterEpochsSpec.vars.all (Try.prog.varReadable ·)) = true := by kernel_rfl
theorem k19 : (Try.f8.resultTypes.all (fun t => Try.prog.readableRec t && decide (t < Try.prog.types.size))) = true := by kernel_rfl
theorem k20 : ((Rows.arbiterEpochsRow.ifacesOut == Try.f8.resultTypes.toList.any (Try.prog.ifacesRec ·))) = true := by kernel_rfl
theorem k21 : ((Rows.arbiterEpochsRow.loopsOut == Try.f8.resultTypes.toList.any (Try.prog.loopsFrom ·))) = true := by kernel_rfl
theorem k23 : (Rows.arbiterEpochsRow.shortTexts.isNone) = true := by kernel_rfl
theorem k29 : ((Rows.arbiterEpochsRow.pinned == Rows.arbiterEpochsRow.pinnedBy)) = true := by kernel_rfl
theorem k30 : ((Rows.arbiterEpochsRow.veiled == (Try.f8.params.toList ++ Rows.arbiterEpochsSpec.plain.varTypes Try.prog ++ Try.f8.resultTypes.toList).any (Try.prog.veiledRec ·))) = true := by kernel_rfl
theorem k31 : (Rows.arbiterEpochsRow.veiledFits Try.prog Try.f8.params.toList (Try.f8.params.toList ++ Rows.arbiterEpochsSpec.plain.varTypes Try.prog ++ Try.f8.resultTypes.toList)) = true := by kernel_rfl
open Facts in
theorem closed : joinedFacts Try.prog 8 Try.f8 Rows.arbiterEpochsSpec Rows.arbiterEpochsRow = true := (and2 (and2 (and2 (and2 (and2 (and2 (and2 (and2 (and2 (and2 (and2 (and2 (and2 (and2 (and2 (and2 (and2 (and2 (and2 (and2 (and2 (and2 (and2 (and2 (and2 (and2 (and2 (and2 (and2 (and2 (and2 k0 Facts.s1) Facts.s2) k3) k4) k5) Facts.s6) k7) Facts.s8) k9) k10) k11) k12) k13) k14) k15) k16) k17) k18) k19) k20) k21) Facts.s22) k23) Facts.s24) Facts.s25) Facts.s26) Facts.s27) (by kernel_rfl)) k29) k30) k31)
theorem own : ownKnob Try.prog.godebug = none := by kernel_rfl
theorem named : Try.pinned.checked.prog.funcNamed Rows.arbiterEpochsRow.func = some 8 := by kernel_rfl
theorem inst : Try.f8.isInstance Try.pinned.checked.prog Rows.arbiterEpochsRow.origin Rows.arbiterEpochsRow.targs := of_decide_eq_true (by kernel_rfl)
theorem wrap : Try.f8.isWrapper Try.pinned.checked.prog Rows.arbiterEpochsRow.wrapper Rows.arbiterEpochsRow.mainSum := by unfold Func.isWrapper; first | (rw [if_pos (by decide +kernel)]; kernel_rfl) | (rw [if_neg (by decide +kernel)]; exact ⟨rfl, rfl⟩)
end Go.Proofs.Ytjefojpbglcjhaa.FaArbiterEpochs
