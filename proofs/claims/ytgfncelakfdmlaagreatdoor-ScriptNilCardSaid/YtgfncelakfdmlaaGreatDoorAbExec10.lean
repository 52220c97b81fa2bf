import Derived.Test.YtgfncelakfdmlaaGreatDoorAbExec9
import Derived.Lib.Builder
/-! cap; pointers and unsafe.Pointer. -/
namespace Go.Ab
open Go

section
variable {P : Program} {j : J} {σ : Mem} {w : World}

def xCap (P : Program) (t : TypeId) (x : Value) : Option Value :=
  match P.underlying t, x with
  | some (.slice _), .slice none _ c => some (.int .i64 c)
  | some (.slice _), .slice (some _) _ c => if c < BIG then some (.int .i64 c) else none
  | some (.array n _), _ => some (.int .i64 n)
  | _, _ => none
theorem xCap_ok (h : WR j σ w) {t ty : TypeId} {x x' v : Value} (hx : VR j x x') (hl : xCap P t x = some v) : Yields P j σ w (Builtin.cap_ #[t] ty #[x']) v σ := by
  unfold xCap at hl
  split at hl
  · rename_i e l c hd; cases hl; obtain rfl := hx.nils_inv; exact Yields.same h (by simp [Builtin.cap_, run_underlying hd, goInt]) (.int _ _)
  · rename_i e a l c hd
    split at hl
    · rename_i hc
      cases hl
      obtain ⟨im, c', hj, hcr, rfl⟩ := hx.slice_inv
      obtain rfl := hcr.known hc
      exact Yields.same h (by simp [Builtin.cap_, run_underlying hd, goInt]) (.int _ _)
    · cases hl
  · rename_i n e hd; cases hl
    cases hx <;> exact Yields.same h (by simp [Builtin.cap_, run_underlying hd, goInt]) (.int _ _)
  · cases hl

theorem rowAt_mono (p : Program) (fits : TypeId → Bool) : ∀ (d : Nat) (e : TypeId) (c c' off n : Nat), c ≤ c' → rowAt p fits d e c off n = true → rowAt p fits d e c' off n = true
  | 0, _, _, _, _, _, _, h => by simp [rowAt] at h
  | d + 1, e, c, c', off, n, hc, h => by
    simp only [rowAt] at h ⊢
    split
    · rename_i hs; rw [if_pos hs] at h; exact h
    · rename_i hs
      rw [if_neg hs] at h
      simp only [Bool.or_eq_true, Bool.and_eq_true, decide_eq_true_eq, beq_iff_eq] at h ⊢
      rcases h with ⟨⟨h1, h2⟩, h3⟩ | ⟨h1, h2⟩
      · exact .inl ⟨⟨h1, by omega⟩, h3⟩
      · exact .inr ⟨by omega, h2⟩
theorem liesAt_mono (p : Program) : ∀ (d : Nat) (e : TypeId) (c c' off : Nat) (u : TypeId) (n : Nat), c ≤ c' → liesAt p d e c off u n = true → liesAt p d e c' off u n = true
  | 0, _, _, _, _, _, _, _, h => by simp [liesAt] at h
  | d + 1, e, c, c', off, u, n, hc, h => by
    simp only [liesAt, Bool.or_eq_true] at h ⊢
    rcases h with h | h
    · exact .inl (rowAt_mono p _ _ _ _ _ _ _ hc h)
    · right
      split at h
      · rename_i m u' hu
        exact liesAt_mono p d e c c' off u' _ hc h
      · cases h

def xUnsafe (P : Program) (σ : Mem) (src dst : TypeId) (x : Value) : Option Value :=
  match P.underlying src, P.underlying dst, x with
  | some (.pointer _), some .unsafePointer, .pointer none => some (.pointer none)
  | some .unsafePointer, some (.pointer _), .pointer none => some (.pointer none)
  | some (.pointer t), some .unsafePointer, .pointer (some a) => (match P.info? t, σ.get a.block with
    | some i, some (.row cs _ _) => if i.size ≠ 0 ∧ a.off < cs.length then some (.pointer (some a)) else none
    | _, _ => none)
  | some .unsafePointer, some (.pointer u), .pointer (some a) => (match P.info? u, σ.get a.block with
    | some _, some (.row cs T _) => if liesAt P P.depth T (cs.length / P.cellsOf T) a.off u 1 then some (.pointer (some a)) else none
    | _, _ => none)
  | _, _, _ => none
theorem xUnsafe_ok (h : WR j σ w) {src dst : TypeId} {x x' v : Value} (hx : VR j x x') (hl : xUnsafe P σ src dst x = some v) : Yields P j σ w (convert src dst x') v σ := by
  unfold xUnsafe at hl
  split at hl
  · rename_i t hs hd
    cases hl; cases hx
    exact Yields.same h (by simp [convert, run_underlying hs, run_underlying hd, Conv.unsafePointer]) .nilp
  · rename_i t hs hd
    cases hl; cases hx
    exact Yields.same h (by simp [convert, run_underlying hs, run_underlying hd, Conv.unsafePointer]) .nilp
  · rename_i t a hs hd
    split at hl
    · rename_i i cs T fr hi hg
      split at hl
      · rename_i hc
        cases hl
        have hx2 := hx
        obtain ⟨im, hj, rfl⟩ := hx.ptr_inv
        obtain ⟨c, fr', hw, hsz, _, hcl, _⟩ := row_of h hj hg
        have hsh : w.shape? im.b = some (T, c.size) := by simp [World.shape?, hw]
        exact Yields.same h (Lib.run_to_unsafe w { a with block := im.b } hs hd hi hc.1 hsh (by simp; omega)) hx2
      · cases hl
    · cases hl
  · rename_i u a hs hd
    split at hl
    · rename_i i cs T fr hi hg
      split at hl
      · rename_i hc
        cases hl
        have hx2 := hx
        obtain ⟨im, hj, rfl⟩ := hx.ptr_inv
        obtain ⟨c, fr', hw, hsz, _, hcl, _⟩ := row_of h hj hg
        have hsh : w.shape? im.b = some (T, c.size) := by simp [World.shape?, hw]
        refine Yields.same h (Lib.run_from_unsafe w { a with block := im.b } hs hd hi hsh ?_) hx2
        exact liesAt_mono P _ _ _ _ _ _ _ (Nat.div_le_div_right (by omega)) hc
      · cases hl
    · cases hl
  · cases hl
end
end Go.Ab
