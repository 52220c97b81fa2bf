/- The tie of the listed variables, by smaller steps than the given text's (which wants more than 10 GB here): each closed fact a theorem of its own, and that no place is met twice by the places' codes. -/
import Derived.Test.YtgfncelakfdmlaaGreatDoorRows
import Derived.LaidByTextLater
import Derived.SevenTiedAt
import Derived.Deep.DeepLaidRun
namespace Go.Proofs.YtgfncelakfdmlaaGreatDoor.own
open Go
abbrev tied : List (String × DataW Unit) := [("unicode/utf8.acceptRanges", Rows.laid_unicode_utf8_acceptRanges), ("internal/strconv.uint64pow10", Rows.laid_internal_strconv_uint64pow10), ("math/bits.deBruijn32tab", Rows.laid_math_bits_deBruijn32tab), ("math/bits.deBruijn64tab", Rows.laid_math_bits_deBruijn64tab), ("strconv.ErrSyntax", Rows.laid_strconv_ErrSyntax), ("strconv.ErrRange", Rows.laid_strconv_ErrRange), ("pyxis/sha.small", Rows.laid_pyxis_sha_small), ("pyxis/sha.great", Rows.laid_pyxis_sha_great), ("errors.errorType", Rows.laid_errors_errorType), ("pyxis/ghash.fold", Rows.laid_pyxis_ghash_fold)]
abbrev kinds : List LaidKind := [.data, .data, .data, .data, .sentinel, .sentinel, .data, .data, .handle, .data]
theorem t1 : Tryz.prog.worded (varsWordLater true) = true := by kernel_rfl
theorem t2 : Tryz.prog.worded (varsWordLater !true) = false := by kernel_rfl
theorem t3 : Tryz.prog.worded rootWordLater = true := by kernel_rfl
theorem t4 : tied.map (fun x => Tryz.prog.kindOfLater x.1) = kinds.map some := by kernel_rfl
theorem t5 : (Tryz.prog.funcNamed "gosem.cut.vars").isSome = true := by kernel_rfl
theorem t6 : varsNamedLaterB Tryz.prog (varsId Tryz.prog) tied = true := by kernel_rfl
theorem t7 (os : Os) (tape : Tape) : varsDone Tryz.prog 400 (varsId Tryz.prog) os tape = true := by kernel_rfl
theorem t8 (os : Os) (tape : Tape) : (DataW.laidRun Tryz.prog (varsWorld Tryz.prog 400 (varsId Tryz.prog) os tape).memory 8 ((tied.filter fun x => x.2.handleName?.isNone).map (·.1))).map (·.1) = some (tied.filter fun x => x.2.handleName?.isNone) := by kernel_rfl
theorem t9 (os : Os) (tape : Tape) : (DataW.laidRun Tryz.prog (varsWorld Tryz.prog 400 (varsId Tryz.prog) os tape).memory 8 ((tied.filter fun x => x.2.handleName?.isNone).map (·.1))).map (fun x => nodupB (x.2.map MemPlace.codeOf)) = some true := by kernel_rfl
theorem t10 (os : Os) (tape : Tape) : (DataW.laidRun Tryz.prog (varsWorld Tryz.prog 400 (varsId Tryz.prog) os tape).memory 8 ((tied.filter fun x => x.2.handleName?.isNone).map (·.1))).map (fun x => laidRowsB Tryz.prog (varsWorld Tryz.prog 400 (varsId Tryz.prog) os tape).memory x.2) = some true := by kernel_rfl
theorem t11 (os : Os) (tape : Tape) : (tied.filter fun x => x.2.handleName?.isSome).all (handleAtB Tryz.prog (varsWorld Tryz.prog 400 (varsId Tryz.prog) os tape).memory) = true := by kernel_rfl
theorem both {α : Type} {x : Option (α × List MemPlace)} {f : List MemPlace → Bool} (h : x.map (fun x => nodupB (x.2.map MemPlace.codeOf)) = some true) (k : x.map (fun x => f x.2) = some true) : x.map (fun x => decide x.2.Nodup && f x.2) = some true := by
  cases x with
  | none => cases h
  | some y =>
    simp only [Option.map_some, Option.some.injEq] at h k ⊢
    simp [nodup_of_code h, k]
theorem tie : Tryz.prog.laidByTextLater tied kinds true :=
  Program.laidByTextLater_by_run_h 400 8 t1 t2 t3 t4 t5 t6 t7 t8 (fun os tape => both (t9 os tape) (t10 os tape)) t11
theorem pin : Tryz.pinned.checked.prog.pinnedFits "unicode/utf8.first" = true := by kernel_rfl
theorem noUnsafe : Tryz.pinned.checked.prog.headLifts.contains "ownunsafe" = false := by kernel_rfl
theorem fits : Tryz.pinned.checked.prog.listedFits [("unicode/utf8.first", Rows.laid_unicode_utf8_first), ("unicode/utf8.acceptRanges", Rows.laid_unicode_utf8_acceptRanges), ("internal/strconv.uint64pow10", Rows.laid_internal_strconv_uint64pow10), ("math/bits.deBruijn32tab", Rows.laid_math_bits_deBruijn32tab), ("math/bits.deBruijn64tab", Rows.laid_math_bits_deBruijn64tab), ("strconv.ErrSyntax", Rows.laid_strconv_ErrSyntax), ("strconv.ErrRange", Rows.laid_strconv_ErrRange), ("pyxis/sha.small", Rows.laid_pyxis_sha_small), ("pyxis/sha.great", Rows.laid_pyxis_sha_great), ("errors.errorType", Rows.laid_errors_errorType), ("pyxis/ghash.fold", Rows.laid_pyxis_ghash_fold)] = true := by
  unfold Program.listedFits
  rw [noUnsafe]
  kernel_rfl
theorem scriptNil_row_tie : Rows.scriptNilRow.laidByTextAt .later Tryz.pinned [.pinned, .data, .data, .data, .data, .sentinel, .sentinel, .data, .data, .handle, .data] true :=
  OpenClaim.laidByTextAt_pinned rfl rfl tie rfl rfl rfl rfl (fun y hy _e => by
    simp only [Rows.scriptNilRow, List.zip_cons_cons, List.zip_nil_right, List.mem_cons, List.mem_nil_iff, or_false] at hy
    rcases hy with rfl | rfl | rfl | rfl | rfl | rfl | rfl | rfl | rfl | rfl | rfl
    · exact ⟨pin, by kernel_rfl⟩
    · cases _e
    · cases _e
    · cases _e
    · cases _e
    · cases _e
    · cases _e
    · cases _e
    · cases _e
    · cases _e
    · cases _e) fits
end Go.Proofs.YtgfncelakfdmlaaGreatDoor.own
