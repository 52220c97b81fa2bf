import Derived.Test.YtgfncelakfdmlaaGreatDoorAbGood
import Derived.Laws.World
/-! Blocks beside the memory; one cell. -/
namespace Go.Ab
open Go
theorem alloc_ok {j : J} {σ : Mem} {w : World} (h : WR j σ w) (o : Obj) : WR j σ (w.alloc o) ∧ Ext j σ w j σ (w.alloc o) := by
  have hh : (w.alloc o).heap = w.heap.push o := rfl
  refine ⟨⟨h.lt, h.inj, fun a im x ha hx => ?_, h.glob⟩, ⟨Le.refl j, Nat.le_refl _, rfl, rfl, rfl, rfl, by rw [hh]; simp, fun b hb _ => ?_, fun a im ha hs _ => ⟨a, im, ha, rfl, hs⟩, fun _ _ h => .inl h⟩⟩
  · obtain ⟨ob, ho, hb⟩ := h.blk a im x ha hx
    have := h.sz ha (by simp [hx])
    refine ⟨ob, ?_, hb⟩
    rw [hh, Array.getElem?_push, if_neg (by omega)]; exact ho
  · rw [hh, Array.getElem?_push, if_neg (by omega)]
/-- one cell is stored -/
theorem setCell_ok {j : J} {σ σ' : Mem} {w : World} (h : WR j σ w) {p : Addr} {im : Im} (hj : j p.block = some im) {v v' : Value} (hs : astores σ p [v] = some σ') (hv : VR j v v') :
    (∃ old, w.cell? { p with block := im.b } = some old) ∧ w.frozen? { p with block := im.b } = false ∧ WR j σ' (w.setCell { p with block := im.b } v') ∧ Ext j σ w j σ' (w.setCell { p with block := im.b } v') := by
  unfold astores at hs
  split at hs
  · rename_i cs T fr hsp hg
    split at hs
    · rename_i hc
      cases hs
      simp only [Bool.and_eq_true, decide_eq_true_eq, List.length_cons, List.length_nil, Nat.zero_add] at hc
      obtain ⟨⟨hle, hst⟩, hone⟩ := hc
      obtain ⟨c, fr', hw, hsz, hfr, hcl, hcv⟩ := row_of h hj hg
      have hfz := stored_spec hst hfr hle hcl 0 (by omega)
      obtain ⟨b, off, sp⟩ := p
      simp only at hsp hj hg hle hst hfz ⊢
      subst hsp
      have hlt : off < c.size := by omega
      refine ⟨⟨c[off], ?_⟩, ?_, ?_⟩
      · simp only [World.cell?, hw]
        simp
      · simp only [World.frozen?, hw]; simpa [frz] using hfz
      · exact put_ok h hj hg (x := .row (splice cs off [v]) T fr) (o := .cells (c.setIfInBounds off v') T fr')
          (.row _ _ _ _ _ (by simp [hsz]) hfr (by rw [splice_length]; exact hcl) (by
            rw [splice_length]
            simp only [splice, Array.toList_setIfInBounds]
            rw [List.take_set]
            exact hcv.set off hv)) (setCell_heap w im.b off v' hw) rfl rfl rfl
    · cases hs
  · cases hs
end Go.Ab
