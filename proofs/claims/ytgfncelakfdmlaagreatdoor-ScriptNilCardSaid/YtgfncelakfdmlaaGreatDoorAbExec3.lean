import Derived.Test.YtgfncelakfdmlaaGreatDoorAbExec2
/-! Slicing, append, make. -/
namespace Go.Ab
open Go

section
variable {P : Program} {j : J} {σ : Mem} {w : World}

/-- a bound: absent, or an int -/
def bnd (d : Nat) : Option Value → Option Nat
  | none => some d
  | some (.int _ i) => if 0 ≤ i then some i.toNat else none
  | some _ => none
inductive OR (j : J) : Option Value → Option Value → Prop
  | none : OR j none none
  | some (v v' : Value) (h : VR j v v') : OR j (some v) (some v')

theorem bound_run {v v' : Value} (hv : VR j v v') {y n : Nat} {d : Nat} (hb : bnd d (some v) = some n) (hn : n ≤ y) (code : BoundsCode) (w : World) :
    (Instr.sliceBound v' y code).run P w = .ok n w := by
  unfold bnd at hb
  split at hb
  · rename_i he; cases he
  · rename_i k i he
    cases he
    split at hb
    · rename_i h0
      cases hb
      obtain rfl := hv.int_inv
      have hc : 0 ≤ i ∧ i ≤ (y : Int) := ⟨h0, by omega⟩
      simp [Instr.sliceBound, asIntOf, hc]
    · cases hb
  · cases hb

/-- two bounds, or three -/
theorem bounds_run {lo hi lo' hi' : Option Value} (h1 : OR j lo lo') (h2 : OR j hi hi') {len cap l h : Nat} (hl : bnd 0 lo = some l) (hh : bnd len hi = some h) (hle : l ≤ h) (hc : h ≤ cap)
    (isSlice : Bool) (w : World) : (Instr.sliceBounds isSlice len cap lo' hi' none).run P w = .ok (l, h, cap) w := by
  cases h1 with
  | none =>
    simp only [bnd] at hl; cases hl
    cases h2 with
    | none => simp only [bnd] at hh; cases hh; simp [Instr.sliceBounds]
    | some v v' hv => simp [Instr.sliceBounds, bound_run hv hh hc]
  | some u u' hu =>
    cases h2 with
    | none => simp only [bnd] at hh; cases hh; simp [Instr.sliceBounds, bound_run hu hl hle]
    | some v v' hv => simp [Instr.sliceBounds, bound_run hv hh hc, bound_run hu hl hle]
theorem bounds3_run {lo lo' : Option Value} {hv hv' mv mv' : Value} (h1 : OR j lo lo') (h2 : VR j hv hv') (h3 : VR j mv mv') {len cap l h m : Nat} (hl : bnd 0 lo = some l) (hh : bnd len (some hv) = some h)
    (hm : bnd 0 (some mv) = some m) (hle : l ≤ h) (hc : h ≤ m) (hmc : m ≤ cap) (isSlice : Bool) (w : World) : (Instr.sliceBounds isSlice len cap lo' (some hv') (some mv')).run P w = .ok (l, h, m) w := by
  cases h1 with
  | none =>
    simp only [bnd] at hl; cases hl
    simp [Instr.sliceBounds, bound_run h3 hm hmc, bound_run h2 hh hc]
  | some u u' hu => simp [Instr.sliceBounds, bound_run h3 hm hmc, bound_run h2 hh hc, bound_run hu hl hle]

def subStr (s : ByteArray) (l h : Nat) : ByteArray := ⟨((s.data.toList.drop l).take (h - l)).toArray⟩
theorem subStr_eq (s : ByteArray) (l h : Nat) : s.extract l h = subStr s l h := by
  have : (s.extract l h).data = ((s.data.toList.drop l).take (h - l)).toArray := by
    rw [ByteArray.data_extract]
    apply Array.toList_inj.1
    simp [List.extract]
  unfold subStr
  rw [← this]

/-- what is left of a capacity -/
def capLess (c l : Nat) : Nat := if c < BIG then c - l else (c / BIG) * BIG + (c % BIG - l)
def xSlice (P : Program) (t : TypeId) (x : Value) (lo hi mx : Option Value) : Option Value :=
  match P.underlying t, x with
  | some (.array n e), .pointer (some a) =>
    (match bnd 0 lo, bnd n hi, mx, P.info? e with
    | some l, some h, none, some i => if l ≤ h && h ≤ n && n < BIG then some (.slice (some (if n = l then a else a.add (l * i.size))) (h - l) (n - l)) else none
    | _, _, _, _ => none)
  | some .string, .string s =>
    (match bnd 0 lo, bnd s.size hi, mx with
    | some l, some h, none => if l ≤ h && h ≤ s.size then some (.string (subStr s l h)) else none
    | _, _, _ => none)
  | some (.slice e), .slice none len c =>
    (match bnd 0 lo, bnd len hi, mx, P.info? e with
    | some l, some h, none, some _ => if l ≤ h && h ≤ c && c < BIG then some (.slice none (h - l) (c - l)) else none
    | _, _, _, _ => none)
  | some (.slice e), .slice (some a) len c =>
    (match bnd 0 lo, bnd len hi, mx, P.info? e with
    | some l, some h, none, some i =>
      if c < BIG then (if l ≤ h && h ≤ c then some (.slice (some (if c = l then a else a.add (l * i.size))) (h - l) (c - l)) else none)
      else if l ≤ h && h ≤ c % BIG && c / BIG = i.size && (l = 0 || l < c % BIG) then some (.slice (some (a.add (l * i.size))) (h - l) (capLess c l)) else none
    | some l, some h, some mv, some i => (match hi, bnd 0 (some mv) with
      | some _, some m => if l ≤ h && h ≤ m && m ≤ c % BIG && m < BIG then some (.slice (some (if m = l then a else a.add (l * i.size))) (h - l) (m - l)) else none
      | _, _ => none)
    | _, _, _, _ => none)
  | _, _ => none
theorem CapR.known {off sz c c' : Nat} (h : CapR off sz c c') (hc : c < BIG) : c' = c := by unfold CapR at h; rwa [if_pos hc] at h
theorem CapR.unknown {off sz c c' : Nat} (h : CapR off sz c c') (hc : ¬ c < BIG) : c % BIG ≤ c' ∧ off + c' * (c / BIG) ≤ sz := by unfold CapR at h; rwa [if_neg hc] at h
theorem CapR.le {off sz c c' : Nat} (h : CapR off sz c c') : c % BIG ≤ c' := by
  by_cases hc : c < BIG
  · rw [h.known hc, Nat.mod_eq_of_lt hc]; exact Nat.le_refl _
  · exact (h.unknown hc).1
theorem CapR.of_known {off sz c : Nat} (hc : c < BIG) : CapR off sz c c := by unfold CapR; rw [if_pos hc]
theorem add_off (a : Addr) (n : Nat) : (a.add n).off = a.off + n := by unfold Addr.add; split <;> simp_all

theorem xSlice_ok (h : WR j σ w) {t : TypeId} {x x' : Value} {lo hi mx lo' hi' mx' : Option Value} (hx : VR j x x') (h1 : OR j lo lo') (h2 : OR j hi hi') (h3 : OR j mx mx') {v : Value}
    (hl : xSlice P t x lo hi mx = some v) : Yields P j σ w (Instr.sliceAt t x' lo' hi' mx') v σ := by
  unfold xSlice at hl
  split at hl
  · rename_i n e a hd
    split at hl
    · rename_i l hh i g1 g2 hi
      split at hl
      · rename_i hc
        simp only [Bool.and_eq_true, decide_eq_true_eq] at hc
        cases hl
        obtain ⟨im, hj, rfl⟩ := hx.ptr_inv
        cases h3
        have hb := bounds_run (P := P) h1 h2 g1 g2 hc.1.1 hc.1.2 false w
        have hcap : n - l < BIG := by omega
        by_cases hm : n = l
        · refine Yields.same h (v' := .slice (some { a with block := im.b }) (hh - l) (n - l)) ?_ ?_
          · simp only [Instr.sliceAt, run_underlying hd, Instr.sureAddr, hb, size_run hi, Sem.run_bind, Sem.run_pure, Result.andThen_ok]; rw [if_pos hm]
          · rw [if_pos hm]; exact .slice a im _ _ _ hj (.of_known hcap)
        · refine Yields.same h (v' := .slice (some (({ a with block := im.b } : Addr).add (l * i.size))) (hh - l) (n - l)) ?_ ?_
          · simp [Instr.sliceAt, run_underlying hd, Instr.sureAddr, hb, size_run hi, hm]
          · rw [if_neg hm, ← add_block a im.b]; exact .slice (a.add (l * i.size)) im _ _ _ (by rw [add_blk]; exact hj) (.of_known hcap)
      · cases hl
    · cases hl
  · rename_i s hd
    split at hl
    · rename_i l hh g1 g2
      split at hl
      · rename_i hc
        simp only [Bool.and_eq_true, decide_eq_true_eq] at hc
        cases hl
        obtain rfl := hx.string_inv
        cases h3
        have hb := bounds_run (P := P) h1 h2 g1 g2 hc.1 hc.2 false w
        refine Yields.same h (v' := .string (s.extract l hh)) ?_ ?_
        · simp [Instr.sliceAt, Instr.slice, run_underlying hd, hb]
        · rw [subStr_eq]; exact .string _
      · cases hl
    · cases hl
  · rename_i e len c hd
    split at hl
    · rename_i l hh i g1 g2 hi
      split at hl
      · rename_i hc
        simp only [Bool.and_eq_true, decide_eq_true_eq] at hc
        cases hl
        obtain rfl := hx.nils_inv
        cases h3
        have hb := bounds_run (P := P) h1 h2 g1 g2 hc.1.1 hc.1.2 true w
        refine Yields.same h (v' := .slice none (hh - l) (c - l)) ?_ (.nils _ _)
        simp [Instr.sliceAt, Instr.slice, run_underlying hd, hb, size_run hi]
      · cases hl
    · cases hl
  · rename_i e a len c hd
    split at hl
    · rename_i l hh i g1 g2 hi
      obtain ⟨im, c', hj, hcr, rfl⟩ := hx.slice_inv
      cases h3
      split at hl
      · rename_i hbig
        split at hl
        · rename_i hc
          simp only [Bool.and_eq_true, decide_eq_true_eq] at hc
          cases hl
          obtain rfl := hcr.known hbig
          have hb := bounds_run (P := P) h1 h2 g1 g2 hc.1 hc.2 true w
          have hcap : c' - l < BIG := by omega
          by_cases hm : c' = l
          · refine Yields.same h (v' := .slice (some { a with block := im.b }) (hh - l) (c' - l)) ?_ ?_
            · simp only [Instr.sliceAt, Instr.slice, run_underlying hd, hb, size_run hi, Sem.run_bind, Sem.run_pure, Result.andThen_ok]; rw [if_pos hm]
            · rw [if_pos hm]; exact .slice a im _ _ _ hj (.of_known hcap)
          · refine Yields.same h (v' := .slice (some (({ a with block := im.b } : Addr).add (l * i.size))) (hh - l) (c' - l)) ?_ ?_
            · simp [Instr.sliceAt, Instr.slice, run_underlying hd, hb, size_run hi, hm]
            · rw [if_neg hm, ← add_block a im.b]; exact .slice (a.add (l * i.size)) im _ _ _ (by rw [add_blk]; exact hj) (.of_known hcap)
        · cases hl
      · rename_i hbig
        split at hl
        · rename_i hc
          simp only [Bool.and_eq_true, Bool.or_eq_true, decide_eq_true_eq] at hc
          cases hl
          obtain ⟨⟨⟨hlh, hhb⟩, hsz⟩, hl0⟩ := hc
          obtain ⟨hlb, hfit⟩ := hcr.unknown hbig
          have hb := bounds_run (P := P) h1 h2 g1 g2 hlh (Nat.le_trans hhb hlb) true w
          have hval : VR j (.slice (some (a.add (l * i.size))) (hh - l) (capLess c l)) (.slice (some (({ a with block := im.b } : Addr).add (l * i.size))) (hh - l) (c' - l)) := by
            rw [← add_block a im.b]
            refine .slice (a.add (l * i.size)) im _ _ _ (by rw [add_blk]; exact hj) ?_
            have hB : 0 < BIG := by unfold BIG; omega
            have hdiv : 1 ≤ c / BIG := (Nat.one_le_div_iff hB).2 (by omega)
            have hlt : c % BIG - l < BIG := by have := Nat.mod_lt c hB; omega
            unfold CapR capLess
            rw [if_neg hbig]
            have hge : ¬ (c / BIG * BIG + (c % BIG - l) < BIG) := by
              have : 1 * BIG ≤ c / BIG * BIG := Nat.mul_le_mul_right _ hdiv
              omega
            rw [if_neg hge]
            have e1 : (c / BIG * BIG + (c % BIG - l)) % BIG = c % BIG - l := by
              rw [Nat.mul_comm, Nat.mul_add_mod]; exact Nat.mod_eq_of_lt hlt
            have e2 : (c / BIG * BIG + (c % BIG - l)) / BIG = c / BIG := by
              rw [Nat.mul_comm, Nat.mul_add_div hB, Nat.div_eq_of_lt hlt]; omega
            rw [e1, e2, add_off]
            refine ⟨by omega, ?_⟩
            rw [hsz] at hfit ⊢
            have : l * i.size + (c' - l) * i.size = c' * i.size := by rw [← Nat.add_mul]; congr 1; omega
            omega
          by_cases hm : c' = l
          · have hl00 : l = 0 := by omega
            subst hl00
            refine Yields.same h ?_ hval
            simp [Instr.sliceAt, Instr.slice, run_underlying hd, hb, size_run hi, Addr.add]
          · refine Yields.same h ?_ hval
            simp [Instr.sliceAt, Instr.slice, run_underlying hd, hb, size_run hi, hm]
        · cases hl
    · rename_i l hh mv i g1 g2 hi
      split at hl
      · rename_i hv m g3
        split at hl
        · rename_i hc
          simp only [Bool.and_eq_true, decide_eq_true_eq] at hc
          cases hl
          obtain ⟨im, c', hj, hcr, rfl⟩ := hx.slice_inv
          cases h3 with
          | some _ mv' hmv =>
            cases h2 with
            | some _ hv' hhv =>
              have hb := bounds3_run (P := P) h1 hhv hmv g1 g2 g3 hc.1.1.1 hc.1.1.2 (Nat.le_trans hc.1.2 hcr.le) true w
              have hcap : m - l < BIG := by omega
              by_cases hm : m = l
              · refine Yields.same h (v' := .slice (some { a with block := im.b }) (hh - l) (m - l)) ?_ ?_
                · simp [Instr.sliceAt, Instr.slice, run_underlying hd, hb, size_run hi, hm]
                · rw [if_pos hm]; exact .slice a im _ _ _ hj (.of_known hcap)
              · refine Yields.same h (v' := .slice (some (({ a with block := im.b } : Addr).add (l * i.size))) (hh - l) (m - l)) ?_ ?_
                · simp [Instr.sliceAt, Instr.slice, run_underlying hd, hb, size_run hi, hm]
                · rw [if_neg hm, ← add_block a im.b]; exact .slice (a.add (l * i.size)) im _ _ _ (by rw [add_blk]; exact hj) (.of_known hcap)
        · cases hl
      · cases hl
    · cases hl
  · cases hl
end
end Go.Ab
