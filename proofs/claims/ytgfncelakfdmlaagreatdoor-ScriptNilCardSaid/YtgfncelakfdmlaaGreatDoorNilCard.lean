/- ScriptNil: a session that is not there tells so: for every line the call returns true and the line reads behind it as before. The tied card; no condition of its own. -/
import Derived.Test.YtgfncelakfdmlaaGreatDoorCards
import Derived.Test.YtgfncelakfdmlaaGreatDoorNilTie
import Derived.Test.YtgfncelakfdmlaaGreatDoorNilLift
import Derived.Test.YtgfncelakfdmlaaGreatDoorNilClosed
import Derived.WalkKit
import Derived.ProofKit
import Derived.OpenShut
import Derived.LaidHandle
import Derived.Deep.DeepLaidRun
import Derived.Deep.DeepHandedRow
import Derived.Deep.DeepWitnessRowRef
namespace Go.Proofs.YtgfncelakfdmlaaGreatDoor.scriptNil
open Go Go.Ab Go.ChangeMaps Go.ChangeShapes Go.WideShapes Go.ChangeAt Go.RowKit

set_option maxRecDepth 100000 in
theorem said : Rows.ScriptNilSaid :=
  OpenClaim.holds_of_cond 3 Tryz.f3 rfl rfl rfl rfl rfl rfl rfl ⟨rfl, rfl, rfl, rfl, rfl⟩ rfl rfl rfl rfl rfl named_ok Tryz.func3 closed
    instance_ok wrapper_ok (fun os started H enc _ F => by rw [OpenClaim.pre_eq_preRow]; exact lifted os started H enc F)

set_option maxRecDepth 100000 in
theorem plain (f : FuncId) (fn : Func) (hf : Tryz.pinned.checked.prog.funcNamed "pyxis/pyxislaw27.ScriptNil" = some f) (hfn : Tryz.pinned.checked.prog.funcs[f]? = some fn) :
    true = Tryz.pinned.checked.prog.looks [] ∧ ∀ (j : Nat) t, fn.params[j]? = some t → Tryz.pinned.checked.prog.wantsStandIn t = false := by
  obtain rfl : f = 3 := Option.some.inj ((show Tryz.prog.funcNamed "pyxis/pyxislaw27.ScriptNil" = some 3 by kernel_rfl).symm.trans hf) |>.symm
  obtain rfl : fn = Tryz.f3 := (Option.some.inj (Tryz.func3.symm.trans hfn)).symm
  refine ⟨by kernel_rfl, fun j t ht => ?_⟩
  rw [Tryz.params3] at ht
  obtain rfl : t = 9 := by simpa using Array.mem_of_getElem? ht
  exact (show Tryz.prog.wantsStandIn 9 = false by kernel_rfl)

/-- THE CARD -/
theorem card : Rows.ScriptNilCardSaid :=
  Claim7.holds_tied_plain_at .later [] _ _ Rows.scriptNilCard.stood.harness _ said (fun _ h => by cases h) card_w (fun _ h => by cases h) own.scriptNil_row_tie rfl ⟨rfl, rfl⟩ card_m rfl plain card_g
end Go.Proofs.YtgfncelakfdmlaaGreatDoor.scriptNil
