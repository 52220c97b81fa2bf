/- ScriptNil: the closed facts that the row and its card ask, each by the kernel. -/
import Derived.Test.YtgfncelakfdmlaaGreatDoorCards
import Derived.JoinedCond
import Derived.SevenTiedAt
import Derived.KernelRfl
namespace Go.Proofs.YtgfncelakfdmlaaGreatDoor.scriptNil
open Go
theorem k2 : laidOutB Tryz.prog = true := by kernel_rfl
theorem k3 : mapsRowed Tryz.prog = true := by kernel_rfl
theorem k10 : (Rows.scriptNilRow.inPlace == Tryz.prog.inPlace 3) = true := by kernel_rfl
theorem k11 : (Rows.scriptNilRow.unfollowed == Tryz.prog.unfollowed 3) = true := by kernel_rfl
theorem k12 : (Rows.scriptNilRow.recurses == Tryz.prog.recurses 3) = true := by kernel_rfl
theorem k13 : (Rows.scriptNilRow.named == Tryz.prog.varsNamed 3) = true := by kernel_rfl
theorem k22 : (Rows.scriptNilRow.plainKeys == Tryz.prog.plainKeys) = true := by kernel_rfl
theorem kh : Tryz.prog.stopsHeard = true := by kernel_rfl
theorem ke : Tryz.prog.mayEnter = true := by kernel_rfl
theorem closed : joinedFacts Tryz.prog 3 Tryz.f3 Rows.scriptNilSpec Rows.scriptNilRow = true := by
  unfold joinedFacts
  rw [k2, k3, k10, k11, k12, k13, k22, kh, ke]
  kernel_rfl
theorem instance_ok : Tryz.f3.isInstance Tryz.pinned.checked.prog Rows.scriptNilRow.origin Rows.scriptNilRow.targs := of_decide_eq_true (by kernel_rfl)
theorem wrapper_ok : Tryz.f3.isWrapper Tryz.pinned.checked.prog Rows.scriptNilRow.wrapper Rows.scriptNilRow.mainSum := by unfold Func.isWrapper; first | (rw [if_pos (by decide +kernel)]; kernel_rfl) | (rw [if_neg (by decide +kernel)]; exact ⟨rfl, rfl⟩)
theorem named_ok : Tryz.pinned.checked.prog.funcNamed Rows.scriptNilRow.func = some 3 := by kernel_rfl
theorem card_w : Rows.scriptNilRow.wfByText (OpenSpec.ofChange Rows.scriptNilSpec) = true := by kernel_rfl
theorem card_m : Tryz.pinned.checked.prog.mainIs = some (Rows.scriptNilCard.stood.harness.1, Rows.scriptNilCard.stood.harness.2.toList) := by kernel_rfl
theorem no_go : Tryz.prog.funcs.any Func.goes = false := by kernel_rfl
theorem goes_none {P : Program} (h : P.funcs.any Func.goes = false) (f : FuncId) : P.goes f = false := by
  have key : ∀ g : Nat, (P.funcs[g]?).any Func.goes = false := by
    intro g
    cases hg : P.funcs[g]? with
    | none => rfl
    | some fn =>
      have hm := Array.mem_of_getElem? hg
      cases hf : fn.goes with
      | false => simp [hf]
      | true =>
        have : P.funcs.any Func.goes = true := Array.any_eq_true'.2 ⟨fn, hm, hf⟩
        rw [h] at this; cases this
  unfold Program.goes
  rw [h]
  simp [key]
theorem goesBy_none {P : Program} (h : P.funcs.any Func.goes = false) {c : OpenClaim} (hs : c.start = .entering) : false = c.goesBy P := by
  unfold OpenClaim.goesBy Program.goesAt Program.goesFrom
  rw [hs]
  cases hf : P.funcNamed c.func with
  | none => rfl
  | some f => simp [goes_none h]
theorem card_g : false = Rows.scriptNilRow.goesBy Tryz.pinned.checked.prog := goesBy_none no_go rfl
end Go.Proofs.YtgfncelakfdmlaaGreatDoor.scriptNil
