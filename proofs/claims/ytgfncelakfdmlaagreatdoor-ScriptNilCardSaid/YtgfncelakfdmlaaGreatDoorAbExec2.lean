import Derived.Test.YtgfncelakfdmlaaGreatDoorAbExec1
import Derived.Laws.BytesString
/-! The operations that make memory. -/
namespace Go.Ab
open Go

section
variable {P : Program} {j : J} {σ : Mem} {w : World}

theorem VRs.of_plain : ∀ {l : List Value}, l.all plain = true → VRs j l l
  | [], _ => .nil
  | v :: l, h => by
    simp only [List.all_cons, Bool.and_eq_true] at h
    exact .cons _ _ _ _ (VR.of_plain h.1) (VRs.of_plain h.2)
theorem zero_run {t : TypeId} {i : TypeInfo} (hi : P.info? t = some i) {z : Value} (hz : i.zero = some z) (w : World) : (zeroValue t).run P w = .ok z w := by
  simp [zeroValue, info_run hi, hz]

/-- a pointer to a new row -/
def xNew (σ : Mem) (T : TypeId) (vs : List Value) : Value × Mem := (.pointer (some ⟨σ.next, 0, none⟩), σ.new (.row vs T (0, 0)))
theorem xNew_ok (h : WR j σ w) {vs vs' : List Value} (hv : VRs j vs vs') (T : TypeId) {m : Sem Value} (hm : ∀ a w', (newRow T vs'.toArray).run P w = .ok a w' → m.run P w = .ok (.pointer (some a)) w') :
    Yields P j σ w m (xNew σ T vs).1 (xNew σ T vs).2 := by
  obtain ⟨h1, h2, h3⟩ := newRow_ok P h hv T
  exact ⟨_, _, _, hm _ _ h1, h2, h3, .ptr ⟨σ.next, 0, none⟩ ⟨w.heap.size, vs.length⟩ (upd_same _ _ _)⟩

def xAlloc (P : Program) (σ : Mem) (t : TypeId) : Option (Value × Mem) :=
  match P.info? t with
  | some i => (match i.zero with
    | some z => if z.cells.toList.all plain then some (xNew σ t z.cells.toList) else none
    | none => none)
  | none => none
theorem xAlloc_ok (h : WR j σ w) {t : TypeId} {r : Value × Mem} (hl : xAlloc P σ t = some r) : Yields P j σ w (Instr.alloc t true (.tuple #[])) r.1 r.2 := by
  unfold xAlloc at hl
  split at hl
  · rename_i i hi
    split at hl
    · rename_i z hz
      split at hl
      · rename_i hp
        cases hl
        refine xNew_ok h (VRs.of_plain hp) t fun a w' hr => ?_
        simp only [Instr.alloc, Sem.run_bind, zero_run hi hz, Result.andThen_ok, newVar]
        simp only [Array.toArray_toList] at hr
        simp [hr]
      · cases hl
    · cases hl
  · cases hl

theorem xBox_ok (h : WR j σ w) {t : TypeId} {v v' : Value} (hv : VR j v v') : Yields P j σ w (Instr.box t v') (xNew σ t v.cells.toList).1 (xNew σ t v.cells.toList).2 := by
  refine xNew_ok h hv.cells t fun a w' hr => ?_
  simp only [Array.toArray_toList] at hr
  simp [Instr.box, newVar, hr]

/-! ### filling -/
inductive PRs (j : J) : List (Nat × Value) → List (Nat × Value) → Prop
  | nil : PRs j [] []
  | cons (i : Nat) (v v' : Value) (l l' : List (Nat × Value)) (h : VR j v v') (t : PRs j l l') : PRs j ((i, v) :: l) ((i, v') :: l')

def xFill (place : Nat → Option (Nat × Nat)) : List Value → List (Nat × Value) → Option (List Value)
  | cells, [] => some cells
  | cells, (i, v) :: rest =>
    match place i with
    | none => none
    | some (off, size) => if v.cells.size = size && off + v.cells.size ≤ cells.length then xFill place (splice cells off v.cells.toList) rest else none

theorem foldl_splice : ∀ (vs : List Value) (k off : Nat) (c : Array Value), ((vs.zipIdx k).foldl (fun (cs : Array Value) (x : Value × Nat) => cs.setIfInBounds (off + x.2) x.1) c).toList = splice c.toList (off + k) vs
  | [], _, _, _ => rfl
  | v :: vs, k, off, c => by
    simp only [List.zipIdx_cons, List.foldl_cons]
    rw [foldl_splice vs (k + 1) off]
    simp [splice, Nat.add_assoc]

theorem fill_ok {place : Nat → Option (Nat × Nat)} : ∀ {parts parts' : List (Nat × Value)}, PRs j parts parts' → ∀ {cells r : List Value} {cells' : Array Value}, VRs j cells cells'.toList → xFill place cells parts = some r →
    ∃ r', Instr.fill place cells' parts' = some r' ∧ VRs j r r'.toList
  | _, _, .nil, cells, r, cells', hc, h => by
    simp only [xFill] at h; cases h
    exact ⟨cells', rfl, hc⟩
  | _, _, .cons i v v' l l' hv t, cells, r, cells', hc, h => by
    simp only [xFill] at h
    split at h
    · cases h
    · rename_i off size hp
      split at h
      · rename_i hb
        simp only [Bool.and_eq_true, decide_eq_true_eq, beq_iff_eq] at hb
        have hsz := hv.cells_size
        have hlen := hc.length
        simp only [Array.length_toList] at hlen
        have hs : VRs j (splice cells off v.cells.toList) ((v'.cells.zipIdx.foldl (fun cs (c, j) => cs.setIfInBounds (off + j) c) cells')).toList := by
          have e : ((v'.cells.zipIdx.foldl (fun cs (c, j) => cs.setIfInBounds (off + j) c) cells')).toList = splice cells'.toList off v'.cells.toList := by
            rw [← Array.foldl_toList]
            simp only [Array.toList_zipIdx]
            exact foldl_splice v'.cells.toList 0 off cells'
          rw [e]
          exact splice_vrs hv.cells hc
        obtain ⟨r', h1, h2⟩ := fill_ok t hs h
        refine ⟨r', ?_, h2⟩
        simp only [Instr.fill, hp]
        have hn : (decide (v'.cells.size ≠ size) || decide (off + v'.cells.size > cells'.size)) = false := by
          simp; omega
        rw [hn]
        exact h1
      · cases h

def xPlaces (P : Program) : List Field → Option (List (Nat × Nat))
  | [] => some []
  | f :: fs => match P.info? f.type, xPlaces P fs with
    | some i, some l => some ((f.offset, i.size) :: l)
    | _, _ => none
theorem places_run : ∀ {fs : List Field} {l : List (Nat × Nat)}, xPlaces P fs = some l → ∀ w : World, (fs.mapM fun f => (do pure (f.offset, ← sizeOf f.type) : Sem (Nat × Nat))).run P w = .ok l w
  | [], l, h, w => by simp only [xPlaces] at h; cases h; simp
  | f :: fs, l, h, w => by
    simp only [xPlaces] at h
    split at h
    · rename_i i l' hi hl
      cases h
      have := places_run hl w
      simp only [List.mapM_cons, Sem.run_bind, size_run hi, Result.andThen_ok, Sem.run_pure]
      rw [this]; rfl
    · cases h

def xBuild (P : Program) (t : TypeId) (parts : List (Nat × Value)) : Option Value :=
  match P.info? t with
  | none => none
  | some i => match i.zero with
    | none => none
    | some z => if z.cells.toList.all plain then
        (match P.underlying t with
        | some (.struct fields) => (match xPlaces P fields.toList with
          | some pl => (xFill (pl[·]?) z.cells.toList parts).map fun r => .agg r.toArray
          | none => none)
        | some (.array _ e) => (match P.info? e with
          | some ie => (xFill (fun k => some (k * ie.size, ie.size)) z.cells.toList parts).map fun r => .agg r.toArray
          | none => none)
        | _ => none) else none
theorem xBuild_ok (h : WR j σ w) {t : TypeId} {parts : List (Nat × Value)} {parts' : Array (Nat × Value)} (hp : PRs j parts parts'.toList) {v : Value} (hl : xBuild P t parts = some v) :
    Yields P j σ w (Instr.build t parts') v σ := by
  unfold xBuild at hl
  split at hl
  · cases hl
  · rename_i i hi
    split at hl
    · cases hl
    · rename_i z hz
      split at hl
      · rename_i hpl
        have hzz : VRs j z.cells.toList z.cells.toList := VRs.of_plain hpl
        split at hl
        · rename_i fields hd
          split at hl
          · rename_i pl hpls
            simp only [Option.map_eq_some_iff] at hl
            obtain ⟨r, h1, rfl⟩ := hl
            obtain ⟨r', h2, h3⟩ := fill_ok hp hzz h1
            refine Yields.same h (v' := .agg r') ?_ (.agg _ _ (by simpa using h3))
            have hm : (fields.mapM fun f => (do pure (f.offset, ← sizeOf f.type) : Sem (Nat × Nat))).run P w = .ok pl.toArray w := by
              rw [Array.mapM_eq_mapM_toList, Sem.run_map, places_run hpls w]; rfl
            simp only [Instr.build, Sem.run_bind, zero_run hi hz, Result.andThen_ok, run_underlying hd]
            rw [hm]
            simp only [Result.andThen_ok]
            have e : (fun x => pl.toArray[x]?) = (fun x : Nat => pl[x]?) := by funext k; simp
            rw [e, h2]; rfl
          · cases hl
        · rename_i n e hd
          split at hl
          · rename_i ie hie
            simp only [Option.map_eq_some_iff] at hl
            obtain ⟨r, h1, rfl⟩ := hl
            obtain ⟨r', h2, h3⟩ := fill_ok hp hzz h1
            refine Yields.same h (v' := .agg r') ?_ (.agg _ _ (by simpa using h3))
            simp only [Instr.build, Sem.run_bind, zero_run hi hz, Result.andThen_ok, run_underlying hd, size_run hie, h2]
            rfl
          · cases hl
        · cases hl
      · cases hl

def xSliceVal (σ : Mem) (T : TypeId) (vs : List Value) (n : Nat) : Value × Mem := (.slice (some ⟨σ.next, 0, none⟩) n n, σ.new (.row vs T (0, 0)))
def zeros (z : Array Value) (n : Nat) : List Value := (List.range n).map fun i => z[i % z.size]!
theorem zeros_plain {z : Array Value} (hz : z.toList.all plain = true) (n : Nat) : (zeros z n).all plain = true := by
  simp only [zeros, List.all_map, List.all_eq_true, List.mem_range, Function.comp]
  intro i _
  rw [Array.getElem!_eq_getD]
  unfold Array.getD
  split
  · rename_i hlt
    have := List.all_eq_true.1 hz (z[i % z.size]) (by simp)
    exact this
  · rfl
def xBuildSlice (P : Program) (σ : Mem) (t : TypeId) (len : Nat) (parts : List (Nat × Value)) : Option (Value × Mem) :=
  match P.underlying t with
  | some (.slice e) => (match P.info? e with
    | some i => (match i.zero with
      | some z => if z.cells.toList.all plain && len * i.size ≤ 16777216 && len < BIG then
          (match xFill (fun k => some (k * i.size, i.size)) (zeros (if len * i.size = 0 then #[] else z.cells) (len * i.size)) parts with
          | some r => some (xSliceVal σ e r len)
          | none => none) else none
      | none => none)
    | none => none)
  | _ => none
theorem xBuildSlice_ok (h : WR j σ w) {t : TypeId} {len : Nat} {parts : List (Nat × Value)} {parts' : Array (Nat × Value)} (hp : PRs j parts parts'.toList) {r : Value × Mem}
    (hl : xBuildSlice P σ t len parts = some r) : Yields P j σ w (Instr.buildSlice t len parts') r.1 r.2 := by
  unfold xBuildSlice at hl
  split at hl
  · rename_i e hd
    split at hl
    · rename_i i hi
      split at hl
      · rename_i z hz
        split at hl
        · rename_i hc
          simp only [Bool.and_eq_true, decide_eq_true_eq] at hc
          obtain ⟨⟨hpl, hle⟩, hbig⟩ := hc
          split at hl
          · rename_i cs hf
            cases hl
            have hzp : VRs j (zeros (if len * i.size = 0 then #[] else z.cells) (len * i.size)) (((Array.range (len * i.size)).map fun k => (if len * i.size = 0 then #[] else z.cells)[k % (if len * i.size = 0 then #[] else z.cells).size]!)).toList := by
              have e1 : (((Array.range (len * i.size)).map fun k => (if len * i.size = 0 then #[] else z.cells)[k % (if len * i.size = 0 then #[] else z.cells).size]!)).toList = zeros (if len * i.size = 0 then #[] else z.cells) (len * i.size) := by
                simp [zeros]
              rw [e1]
              exact VRs.of_plain (zeros_plain (by split <;> simp_all) _)
            obtain ⟨r', h2, h3⟩ := fill_ok hp hzp hf
            obtain ⟨g1, g2, g3⟩ := newRow_ok P h h3 e
            refine ⟨_, _, .slice (some ⟨w.heap.size, 0, none⟩) len len, ?_, g2, g3, .slice ⟨σ.next, 0, none⟩ ⟨w.heap.size, cs.length⟩ len len len (upd_same _ _ _) (by simp [CapR, hbig])⟩
            have hnot : ¬ (len * i.size > 2 ^ 24) := by simp; omega
            simp only [Array.toArray_toList] at g1
            simp only [Instr.buildSlice, Sem.run_bind, run_underlying hd, Result.andThen_ok, size_run hi, hnot, if_false, Sem.run_ite]
            by_cases h0 : len * i.size = 0
            · simp only [h0, if_true, Sem.run_pure, Result.andThen_ok] at h2 ⊢
              rw [h2]; simp [g1]
            · simp only [h0, if_false, Sem.run_bind, zero_run hi hz, Sem.run_pure, Result.andThen_ok] at h2 ⊢
              rw [h2]; simp [g1]
          · cases hl
        · cases hl
      · cases hl
    · cases hl
  · cases hl
end
end Go.Ab
