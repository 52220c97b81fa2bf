/- ScriptNil: what the run gives for every argument and world; a world for the witness; the row's step. -/
import Derived.Test.YtgfncelakfdmlaaGreatDoorRows
import Derived.Test.YtgfncelakfdmlaaGreatDoorNilRun
import Derived.Test.YtgfncelakfdmlaaGreatDoorAbPost
import Derived.WalkKit
import Derived.ProofKit
import Derived.OpenShut
import Derived.LaidHandle
import Derived.Deep.DeepLaidRun
import Derived.Deep.DeepHandedRow
import Derived.Deep.DeepWitnessRowRef
namespace Go.Proofs.YtgfncelakfdmlaaGreatDoor.scriptNil
open Go Go.Ab Go.ChangeMaps Go.ChangeShapes Go.WideShapes Go.ChangeAt Go.RowKit

theorem own : ownKnob Tryz.prog.godebug = none := by kernel_rfl

set_option maxRecDepth 100000 in
theorem contract (H : Type) (enc : TypeId × Value → H) (W : World) (base : Nat) (args : Array Value) (ds gs : List (DataW H)) (before : List MemPlace)
    (hval : ∀ (j : Nat) t v, Tryz.f3.params[j]? = some t → args[j]? = some v → Value.okWide Tryz.prog W .any base t v)
    (hW : DataW.Whole enc Tryz.prog Tryz.f3.params.toList Rows.scriptNilSpec.vars false W args.toList ds gs before) :
    Calls Tryz.prog 3 args W fun e W' => ∃ v, e = .returned v ∧ Rows.scriptNilSpec.post enc Tryz.prog Tryz.f3 false true false false W args v W' := by
  have hW' := hW
  obtain ⟨p, q, hA0, hV, rfl, hfz, hnd⟩ := hW
  have hA : DataW.TrodAll enc Tryz.prog W 0 (fun _ => true) true Tryz.f3.params.toList args.toList ds p := hA0
  rw [Tryz.params3] at hA hval
  obtain ⟨v0, vs0, d0, ds0, p0, q0, hargs, rfl, rfl, h0, r0⟩ := trodAll_cons hA
  obtain ⟨rfl, rfl, rfl⟩ := trodAll_nil r0
  obtain rfl : args = #[v0] := by cases args; simp_all
  obtain ⟨rfl, rfl⟩ := trodVars_none hV
  obtain ⟨line, rfl, rfl, rfl, hl⟩ := open_string Tryz.underlying9 (hval 0 9 v0 rfl rfl) h0
  clear hA0
  simp only [List.append_nil] at hW'
  refine (nilCalls line W).mono fun e W' ⟨he, hk⟩ => ?_
  subst he
  exact ⟨_, rfl, post_of_kept (pa := []) (pv := []) hW' (fun _ _ _ => trodAll_cons_mk (shut_bool Tryz.underlying4 _) trodAll_mk0) (fun _ _ => trodAll_cons_mk (shut_string Tryz.underlying9 hl) trodAll_mk0) (fun _ _ => rfl) rfl
    hk (ok_one (by kernel_rfl) rfl (okWide_bool_mk Tryz.underlying4 _))⟩

/-- The cells that a table's datum stands for. -/
def litCell : Lit → Value
  | .int k n => .int k n
  | .bool b => .bool b
  | _ => .nilIface
def tabCells : Nat → DataW Unit → List Value
  | 0, _ => []
  | _ + 1, .lit l => [litCell l]
  | n + 1, .agg l => l.flatMap (tabCells n)
  | _ + 1, _ => []
def strBytes (l : List UInt8) : ByteArray := ⟨l.toArray⟩
def put (h : Array Obj) (g : Nat) (cs : List Value) : Array Obj := h.modify g fun
  | .cells _ t frozen => .cells cs.toArray t frozen
  | o => o
/-- A WORLD FOR THE WITNESS: the listed variables hold what the row lists. -/
noncomputable def laidWorld (os : Os) : World :=
  let N := (World.settled Tryz.prog os).heap.size
  let w0 := World.holding Tryz.prog os ⟨#[.cells #[.string (strBytes [105, 110, 118, 97, 108, 105, 100, 32, 115, 121, 110, 116, 97, 120])] 363, .cells #[.string (strBytes [118, 97, 108, 117, 101, 32, 111, 117, 116, 32, 111, 102, 32, 114, 97, 110, 103, 101])] 363], #[], []⟩
  let h0 := put w0.heap 0 (tabCells 3 Rows.laid_unicode_utf8_first)
  let h1 := put h0 1 (tabCells 3 Rows.laid_unicode_utf8_acceptRanges)
  let h2 := put h1 3 (tabCells 3 Rows.laid_internal_strconv_uint64pow10)
  let h3 := put h2 6 (tabCells 3 Rows.laid_math_bits_deBruijn32tab)
  let h4 := put h3 7 (tabCells 3 Rows.laid_math_bits_deBruijn64tab)
  let h5 := put h4 4 [.iface 361 (.pointer (some ⟨N, 0, none⟩))]
  let h6 := put h5 5 [.iface 361 (.pointer (some ⟨N + 1, 0, none⟩))]
  let h7 := put h6 10 (tabCells 3 Rows.laid_pyxis_sha_small)
  let h8 := put h7 11 (tabCells 3 Rows.laid_pyxis_sha_great)
  let h9 := put h8 8 [.iface 478 (.agg #[typeHandle Tryz.prog 46])]
  { w0 with heap := put h9 9 (tabCells 3 Rows.laid_pyxis_ghash_fold) }
theorem laid_met (os : Os) (args : Array Value) : laidMetH Tryz.prog Rows.scriptNilRow.laid ((laidWorld os).forCall (fun _ _ => 0) ⟨#[], args, []⟩).memory :=
  laidMetH_of_parts (laidMet_of_run3 8 (by kernel_rfl) (by kernel_rfl) (by kernel_rfl)) (by kernel_rfl)
def oneArg : Array Value := #[.string (strBytes [])]
theorem reads (os : Os) {H : Type} (enc : TypeId × Value → H) : ∃ places, DataW.whole enc Tryz.prog ((laidWorld os).forCall (fun _ _ => 0) ⟨#[], oneArg, []⟩).memory Tryz.f3.params.toList Rows.scriptNilSpec.vars false oneArg.toList 8 = some ([.lit (.string [])], [], places) :=
  ⟨[], by kernel_rfl⟩

set_option maxRecDepth 100000 in
theorem lifted (os : Os) (started : os.Started) (H : Type) (enc : TypeId × Value → H) (F : Stop.Interp) :
    ReturnsInHanded {} Tryz.checked os 3 .any ((OpenSpec.ofChange Rows.scriptNilSpec).preRow enc Tryz.prog Tryz.f3 Rows.scriptNilRow.domain false Rows.scriptNilRow.laid) (((OpenSpec.ofChange Rows.scriptNilSpec).at F).post enc Tryz.prog Tryz.f3 false true false false) := by
  obtain ⟨places, hx⟩ := reads os enc
  refine returnsInHanded_of_row (C := Tryz.checked) (s := OpenSpec.ofChange Rows.scriptNilSpec) own started (by kernel_rfl) Tryz.func3
    (witness_row_at (enc := enc) (C := Tryz.checked) false (laidWorld os) oneArg rfl (by kernel_rfl) (by kernel_rfl) (by kernel_rfl)
      (OpenSpec.preRow_of_cond 8 hx (by kernel_rfl) (fun k hk => by cases hk) (by kernel_rfl) (laid_met os oneArg))) ?_
  intro W base args ds gs before hval hW _ _ _ _ _ _
  exact contract H enc W base args ds gs before hval hW

end Go.Proofs.YtgfncelakfdmlaaGreatDoor.scriptNil
