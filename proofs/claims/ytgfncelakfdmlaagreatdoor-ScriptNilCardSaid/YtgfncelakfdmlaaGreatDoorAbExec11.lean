import Derived.Test.YtgfncelakfdmlaaGreatDoorAbExec10
import Derived.Lib.UnsafeStr
/-! unsafe.SliceData, unsafe.String. -/
namespace Go.Ab
open Go

section
variable {P : Program} {j : J} {σ : Mem} {w : World}

def xSliceData : Value → Option Value
  | .slice none _ _ => some (.pointer none)
  | .slice (some a) _ c => if (c < BIG && c ≠ 0) || (decide (BIG ≤ c) && c % BIG ≠ 0) then some (.pointer (some a)) else none
  | _ => none
theorem xSliceData_ok (h : WR j σ w) {x x' v : Value} {ts : Array TypeId} {ty : TypeId} (hx : VR j x x') (hl : xSliceData x = some v) : Yields P j σ w (Builtin.unsafeSliceData_ ts ty #[x']) v σ := by
  unfold xSliceData at hl
  split at hl
  · cases hl; obtain rfl := hx.nils_inv
    exact Yields.same h (Lib.run_unsafeSliceData_nil w ts ty _ _) .nilp
  · rename_i a n c
    split at hl
    · rename_i hc
      cases hl
      obtain ⟨im, c', hj, hcr, rfl⟩ := hx.slice_inv
      simp only [Bool.or_eq_true, Bool.and_eq_true, decide_eq_true_eq] at hc
      have hne : c' ≠ 0 := by
        rcases hc with ⟨h1, h2⟩ | ⟨h1, h2⟩
        · rw [hcr.known h1]; exact h2
        · have := (hcr.unknown (by omega)).1; omega
      exact Yields.same h (Lib.run_unsafeSliceData_row w ts ty _ _ _ hne) (.ptr a im hj)
    · cases hl
  · cases hl

/-- bytes, each between 0 and 255 -/
def xBytesC : List Value → Option (List UInt8)
  | [] => some []
  | .int .u8 n :: l => if 0 ≤ n && n < 256 then (xBytesC l).map (UInt8.ofNat n.toNat :: ·) else none
  | _ => none
theorem xBytesC_ok : ∀ {l : List Value} {bs : List UInt8}, xBytesC l = some bs → ∀ {l' : List Value}, VRs j l l' → bs.length = l.length ∧ ∀ (i : Nat) (x : UInt8), bs[i]? = some x → l'[i]? = some (Value.int .u8 x.toNat)
  | [], bs, h, l', hv => by simp only [xBytesC] at h; cases h; exact ⟨rfl, fun i x hx => by simp at hx⟩
  | .int .u8 n :: l, bs, h, l', hv => by
    simp only [xBytesC] at h
    split at h
    · rename_i hc
      simp only [Bool.and_eq_true, decide_eq_true_eq] at hc
      simp only [Option.map_eq_some_iff] at h
      obtain ⟨bs', h1, rfl⟩ := h
      cases hv with
      | cons _ v' _ l1 hv1 ht =>
        obtain rfl := hv1.int_inv
        obtain ⟨g1, g2⟩ := xBytesC_ok h1 ht
        refine ⟨by simp [g1], fun i x hx => ?_⟩
        cases i with
        | zero =>
          simp at hx; subst hx
          have : (UInt8.ofNat n.toNat).toNat = n.toNat := by
            rw [UInt8.toNat_ofNat']; omega
          simp [this]; omega
        | succ i => simpa using g2 i x (by simpa using hx)
    · cases h
def frzN (fr : Nat × Nat) (n : Nat) : Nat × Nat := if fr.1 == fr.2 then (0, 0 + n) else (min fr.1 0, max fr.2 (0 + n))
def xUnsafeStr (P : Program) (σ : Mem) (pt : TypeId) : Value → Value → Option (Value × Mem)
  | .pointer p, .int .i64 n =>
    if n = 0 then some (.string .empty, σ) else
    (match p with
    | none => none
    | some a => (match P.underlying pt, σ.get a.block with
      | some (.pointer e), some (.row cs T fr) =>
        if 0 ≤ n && n ≤ 1099511627776 && a.off = 0 && a.spot.isNone && e = T && P.cellsOf e = 1 && n.toNat ≤ cs.length && decide (fr.2 < BIG) then
          (xBytesC (cs.take n.toNat)).map fun bs => (.string ⟨bs.toArray⟩, σ.set a.block (.row cs T (frzN fr n.toNat)))
        else none
      | _, _ => none))
  | _, _ => none
theorem freeze_heap (w : World) (b n : Nat) (hn : n ≠ 0) {c : Array Value} {T : TypeId} {fr : Nat × Nat} (hw : w.heap[b]? = some (.cells c T fr)) :
    (w.freeze ⟨b, 0, none⟩ n).heap = w.heap.setIfInBounds b (.cells c T (frzN fr n)) := by
  apply Array.ext_getElem?
  intro i
  simp only [World.freeze, hn, if_false, Array.getElem?_modify, Array.getElem?_setIfInBounds]
  by_cases e : b = i
  · subst e
    have hlt : b < w.heap.size := by
      rcases Nat.lt_or_ge b w.heap.size with h | h
      · exact h
      · simp [Array.getElem?_eq_none h] at hw
    obtain ⟨lo, hi⟩ := fr
    rw [if_pos rfl, hw]
    simp [hlt, frzN]
  · simp [e]
theorem xUnsafeStr_ok (h : WR j σ w) {pt it ty : TypeId} {x x' y y' : Value} (hx : VR j x x') (hy : VR j y y') {r : Value × Mem} (hl : xUnsafeStr P σ pt x y = some r) :
    Yields P j σ w (Builtin.unsafeString_ #[pt, it] ty #[x', y']) r.1 r.2 := by
  unfold xUnsafeStr at hl
  split at hl
  case h_2 => cases hl
  rename_i p n
  obtain rfl := hy.int_inv
  split at hl
  · rename_i h0
    subst h0
    cases hl
    have : ∃ q, x' = .pointer q := by cases hx <;> exact ⟨_, rfl⟩
    obtain ⟨q, rfl⟩ := this
    exact Yields.same h (Lib.run_unsafeString_none w pt it ty q) (.string _)
  · rename_i hn0
    split at hl
    · cases hl
    · rename_i a
      split at hl
      · rename_i e cs T fr hd hg
        split at hl
        · rename_i hc
          simp only [Bool.and_eq_true, decide_eq_true_eq, Option.isNone_iff_eq_none] at hc
          obtain ⟨⟨⟨⟨⟨⟨⟨c0, c1⟩, c2⟩, c3⟩, c4⟩, c5⟩, c6⟩, c7⟩ := hc
          simp only [Option.map_eq_some_iff] at hl
          obtain ⟨bs, hb, rfl⟩ := hl
          subst c4
          obtain ⟨im, hj, rfl⟩ := hx.ptr_inv
          obtain ⟨c, fr', hw, hsz, hfr, hcl, hcv⟩ := row_of h hj hg
          obtain ⟨b, o, sp⟩ := a
          simp only at c2 c3 hj hg ⊢
          subst c2; subst c3
          have htk : VRs j (cs.take n.toNat) (c.toList.take n.toNat) := by
            have := hcv.take n.toNat
            rwa [List.take_take, Nat.min_eq_left c6] at this
          obtain ⟨g1, g2⟩ := xBytesC_ok hb htk
          have hlen : bs.length = n.toNat := by rw [g1, List.length_take]; omega
          have hne : bs ≠ [] := by intro e; rw [e] at hlen; simp at hlen; omega
          have hrun := Lib.run_unsafeString_row (P := P) w pt it ty e hd c5 im.b c.size (by simp [World.shape?, hw]) bs hne (by omega) (by omega)
            (fun k x hk => by
              have := g2 k x hk
              rw [List.getElem?_take] at this
              split at this
              · rw [addr_add _ rfl]
                simp only [World.cell?, hw]
                simpa using this
              · cases this)
          have hnn : ((bs.length : Nat) : Int) = n := by omega
          rw [hnn] at hrun
          have hfr0 : fr' = fr := by
            unfold FrR at hfr
            rw [if_neg (by intro e; rw [e] at c7; exact absurd c7 (Nat.lt_irrefl _))] at hfr
            exact hfr
          have hput := put_ok h hj hg (x := .row cs e (frzN fr n.toNat)) (o := .cells c e (frzN fr n.toNat))
            (.row _ _ _ _ _ hsz (by
              unfold FrR
              rw [if_neg]
              intro e2
              have h2 := congrArg Prod.fst e2
              unfold frzN at h2
              split at h2
              · simp [BIG] at h2
              · simp [BIG] at h2) hcl hcv)
            (w' := w.freeze ⟨im.b, 0, none⟩ bs.length) (by rw [freeze_heap w im.b bs.length (by omega) hw, hfr0, hlen]) (by unfold World.freeze; split <;> rfl) (by unfold World.freeze; split <;> rfl) (by unfold World.freeze; split <;> rfl)
          exact ⟨j, _, _, hrun, hput.1, hput.2, .string _⟩
        · cases hl
      · cases hl
end
end Go.Ab
