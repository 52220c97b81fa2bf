/- 'pyxislaw27.ScriptNil' at whatever line in whatever world: it returns true and touches nothing that is there. -/
import Derived.Test.YtgfncelakfdmlaaGreatDoorNilFacts
namespace Go.Proofs.YtgfncelakfdmlaaGreatDoor
open Go Go.Ab
theorem nilRun (line : ByteArray) : isTrue (arun abProg (xtab abTab) abSet 100000 noCall 60 3 [.string line] ⟨40, 30, .nil⟩) = true := by kernel_rfl
theorem nilCalls (line : ByteArray) (W : World) : Calls abProg 3 #[.string line] W fun e W' => e = .returned (.bool true) ∧ Kept W W' :=
  calls_true (arun_ok abNong abGood abMixed (noCall_ok _) 60) 30 40 (by decide) rfl (nilRun line) W
end Go.Proofs.YtgfncelakfdmlaaGreatDoor
