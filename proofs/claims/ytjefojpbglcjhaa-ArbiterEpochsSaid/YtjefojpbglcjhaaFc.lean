/- Of the program alone: the facts that every row asks, each by itself. No statement of the seat is proved here. -/
import Derived.Test.YtjefojpbglcjhaaRows
import Derived.WalkKit
import Derived.ProofKit
import Derived.KernelRfl
namespace Go.Proofs.Ytjefojpbglcjhaa.Facts
open Go
theorem s1 : (laidOutB Try.prog) = true := by kernel_rfl
theorem s2 : (mapsRowed Try.prog) = true := by kernel_rfl
theorem s6 : ((Try.prog.stops == [])) = true := by kernel_rfl
theorem s8 : ((Try.prog.stopKnobs == [])) = true := by kernel_rfl
theorem s22 : ((({ program := "", sum := "", func := "", spec := "" } : OpenClaim).plainKeys == Try.prog.plainKeys)) = true := by kernel_rfl
theorem s24 : (Try.prog.stopsHeard) = true := by kernel_rfl
theorem s25 : (Try.prog.mayEnter) = true := by kernel_rfl
theorem s26 : ((({ program := "", sum := "", func := "", spec := "" } : OpenClaim).lifted == Try.prog.liftsFinal)) = true := by kernel_rfl
theorem s27 : ((Try.prog.make == some ({ program := "", sum := "", func := "", spec := "" } : OpenClaim).make)) = true := by kernel_rfl
theorem and2 {a b : Bool} (ha : a = true) (hb : b = true) : (a && b) = true := by rw [ha, hb]; rfl
end Go.Proofs.Ytjefojpbglcjhaa.Facts
