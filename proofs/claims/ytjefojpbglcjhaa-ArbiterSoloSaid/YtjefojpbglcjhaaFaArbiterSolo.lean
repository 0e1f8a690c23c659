/- ArbiterSolo: the closed facts of its row, each by itself. No statement of the seat is proved here. -/
import Derived.Test.YtjefojpbglcjhaaFc
namespace Go.Proofs.Ytjefojpbglcjhaa.FaArbiterSolo
open Go
theorem k0 : (Rows.arbiterSoloRow.wf (OpenSpec.ofChange Rows.arbiterSoloSpec)) = true := by kernel_rfl
theorem k3 : (Try.f3.params.all (Try.prog.readableRec ·)) = true := by kernel_rfl
theorem k4 : (namedTie Try.prog Rows.arbiterSoloRow.named Rows.arbiterSoloSpec.vars) = true := by kernel_rfl
theorem k5 : ((Rows.arbiterSoloRow.stops == [])) = true := by kernel_rfl
theorem k7 : ((Rows.arbiterSoloRow.knobs == [])) = true := by kernel_rfl
theorem k9 : ((Rows.arbiterSoloRow.inPlace == Try.prog.inPlace 3)) = true := by kernel_rfl
theorem k10 : ((Rows.arbiterSoloRow.unfollowed == Try.prog.unfollowed 3)) = true := by kernel_rfl
theorem k11 : ((Rows.arbiterSoloRow.recurses == Try.prog.recurses 3)) = true := by kernel_rfl
theorem k12 : ((Rows.arbiterSoloRow.named == Try.prog.varsNamed 3)) = true := by kernel_rfl
theorem k13 : ((Rows.arbiterSoloRow.maps == (Try.f3.params.toList ++ Rows.arbiterSoloSpec.plain.varTypes Try.prog).any (Try.prog.mapsRec ·))) = true := by kernel_rfl
theorem k14 : ((Rows.arbiterSoloRow.ifaces == (Try.f3.params.toList ++ Rows.arbiterSoloSpec.plain.varTypes Try.prog).any (Try.prog.ifacesRec ·))) = true := by kernel_rfl
theorem k15 : ((Rows.arbiterSoloRow.mapsOut == Try.prog.mapsAmong Try.f3.resultTypes.toList)) = true := by kernel_rfl
theorem k16 : ((Rows.arbiterSoloRow.loops == (Try.f3.params.toList ++ Rows.arbiterSoloSpec.plain.varTypes Try.prog).any (Try.prog.loopsFrom ·))) = true := by kernel_rfl
theorem k17 : ((Rows.arbiterSoloRow.wideKeys == (Try.f3.params.toList ++ Rows.arbiterSoloSpec.plain.varTypes Try.prog ++ Try.f3.resultTypes.toList).any (Try.prog.wideKeysFrom ·))) = true := by kernel_rfl
theorem k18 : (Rows.arbiterSoloSpec.vars.all (Try.prog.varReadable ·)) = true := by kernel_rfl
theorem k19 : (Try.f3.resultTypes.all (fun t => Try.prog.readableRec t && decide (t < Try.prog.types.size))) = true := by kernel_rfl
theorem k20 : ((Rows.arbiterSoloRow.ifacesOut == Try.f3.resultTypes.toList.any (Try.prog.ifacesRec ·))) = true := by kernel_rfl
theorem k21 : ((Rows.arbiterSoloRow.loopsOut == Try.f3.resultTypes.toList.any (Try.prog.loopsFrom ·))) = true := by kernel_rfl
theorem k23 : (Rows.arbiterSoloRow.shortTexts.isNone) = true := by kernel_rfl
theorem k29 : ((Rows.arbiterSoloRow.pinned == Rows.arbiterSoloRow.pinnedBy)) = true := by kernel_rfl
theorem k30 : ((Rows.arbiterSoloRow.veiled == (Try.f3.params.toList ++ Rows.arbiterSoloSpec.plain.varTypes Try.prog ++ Try.f3.resultTypes.toList).any (Try.prog.veiledRec ·))) = true := by kernel_rfl
theorem k31 : (Rows.arbiterSoloRow.veiledFits Try.prog Try.f3.params.toList (Try.f3.params.toList ++ Rows.arbiterSoloSpec.plain.varTypes Try.prog ++ Try.f3.resultTypes.toList)) = true := by kernel_rfl
open Facts in
theorem closed : joinedFacts Try.prog 3 Try.f3 Rows.arbiterSoloSpec Rows.arbiterSoloRow = true := (and2 (and2 (and2 (and2 (and2 (and2 (and2 (and2 (and2 (and2 (and2 (and2 (and2 (and2 (and2 (and2 (and2 (and2 (and2 (and2 (and2 (and2 (and2 (and2 (and2 (and2 (and2 (and2 (and2 (and2 (and2 k0 Facts.s1) Facts.s2) k3) k4) k5) Facts.s6) k7) Facts.s8) k9) k10) k11) k12) k13) k14) k15) k16) k17) k18) k19) k20) k21) Facts.s22) k23) Facts.s24) Facts.s25) Facts.s26) Facts.s27) (by kernel_rfl)) k29) k30) k31)
theorem own : ownKnob Try.prog.godebug = none := by kernel_rfl
theorem named : Try.pinned.checked.prog.funcNamed Rows.arbiterSoloRow.func = some 3 := by kernel_rfl
theorem inst : Try.f3.isInstance Try.pinned.checked.prog Rows.arbiterSoloRow.origin Rows.arbiterSoloRow.targs := of_decide_eq_true (by kernel_rfl)
theorem wrap : Try.f3.isWrapper Try.pinned.checked.prog Rows.arbiterSoloRow.wrapper Rows.arbiterSoloRow.mainSum := by unfold Func.isWrapper; first | (rw [if_pos (by decide +kernel)]; kernel_rfl) | (rw [if_neg (by decide +kernel)]; exact ⟨rfl, rfl⟩)
end Go.Proofs.Ytjefojpbglcjhaa.FaArbiterSolo
