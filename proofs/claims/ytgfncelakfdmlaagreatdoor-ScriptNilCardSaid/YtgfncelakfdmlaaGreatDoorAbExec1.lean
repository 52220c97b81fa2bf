import Derived.Test.YtgfncelakfdmlaaGreatDoorAbOps
import Derived.Laws.Sem
import Derived.Laws.Entries
/-! The operations that read, address and store. -/
namespace Go.Ab
open Go

section
variable {P : Program} {j : J} {σ : Mem} {w : World}

theorem VR.int_inv {k : IntKind} {n : Int} {v' : Value} (h : VR j (.int k n) v') : v' = .int k n := by cases h; rfl
theorem VR.bool_inv {b : Bool} {v' : Value} (h : VR j (.bool b) v') : v' = .bool b := by cases h; rfl
theorem VR.string_inv {s : ByteArray} {v' : Value} (h : VR j (.string s) v') : v' = .string s := by cases h; rfl
theorem VR.ptr_inv {a : Addr} {v' : Value} (h : VR j (.pointer (some a)) v') : ∃ im, j a.block = some im ∧ v' = .pointer (some { a with block := im.b }) := by
  cases h with | ptr _ im h => exact ⟨im, h, rfl⟩
theorem VR.slice_inv {a : Addr} {l c : Nat} {v' : Value} (h : VR j (.slice (some a) l c) v') :
    ∃ im c', j a.block = some im ∧ CapR a.off im.sz c c' ∧ v' = .slice (some { a with block := im.b }) l c' := by
  cases h with | slice _ im _ _ c' h hc => exact ⟨im, c', h, hc, rfl⟩
theorem VR.nils_inv {l c : Nat} {v' : Value} (h : VR j (.slice none l c) v') : v' = .slice none l c := by cases h; rfl
theorem VR.agg_inv {cs : Array Value} {v' : Value} (h : VR j (.agg cs) v') : ∃ cs', v' = .agg cs' ∧ VRs j cs.toList cs'.toList := by
  cases h with | agg _ cs' h => exact ⟨cs', rfl, h⟩
theorem VR.tuple_inv {cs : Array Value} {v' : Value} (h : VR j (.tuple cs) v') : ∃ cs', v' = .tuple cs' ∧ VRs j cs.toList cs'.toList := by
  cases h with | tuple _ cs' h => exact ⟨cs', rfl, h⟩
theorem VR.iface_inv {t : TypeId} {v v' : Value} (h : VR j (.iface t v) v') : ∃ u, v' = .iface t u ∧ VR j v u := by
  cases h with | iface _ _ u h => exact ⟨u, rfl, h⟩
theorem VR.cells {v v' : Value} (h : VR j v v') : VRs j v.cells.toList v'.cells.toList := by
  cases h <;> first | assumption | (refine .cons _ _ _ _ ?_ .nil; constructor <;> assumption) | exact .cons _ _ _ _ (.nilIface) .nil
theorem VR.cells_size {v v' : Value} (h : VR j v v') : v'.cells.size = v.cells.size := by
  have := h.cells.length; simpa using this.symm

theorem add_block (a : Addr) (b n : Nat) : { (a.add n) with block := b } = ({ a with block := b } : Addr).add n := by
  unfold Addr.add; split <;> rfl
theorem add_blk (a : Addr) (n : Nat) : (a.add n).block = a.block := by unfold Addr.add; split <;> rfl
theorem VR.ptr_add {a : Addr} {im : Im} (h : j a.block = some im) (n : Nat) : VR j (.pointer (some (a.add n))) (.pointer (some (({ a with block := im.b } : Addr).add n))) := by
  rw [← add_block a im.b n]
  exact .ptr (a.add n) im (by rw [add_blk]; exact h)

theorem info_run {t : TypeId} {i : TypeInfo} (h : P.info? t = some i) (w : World) : (typeInfo t).run P w = .ok i w := by simp [typeInfo, h]
theorem size_run {t : TypeId} {i : TypeInfo} (h : P.info? t = some i) (w : World) : (sizeOf t).run P w = .ok i.size w := by simp [sizeOf, info_run h]

def isAggD : TypeDesc → Bool
  | .struct _ | .array _ _ => true
  | _ => false
theorem isAgg_run {t : TypeId} {d : TypeDesc} (h : P.underlying t = some d) (w : World) : (isAgg t).run P w = .ok (isAggD d) w := by
  simp only [isAgg, Sem.run_bind, run_underlying h, Result.andThen_ok]
  cases d <;> rfl

def xLoadVar (P : Program) (σ : Mem) (t : TypeId) (a : Addr) : Option Value :=
  match P.underlying t with
  | none => none
  | some d => if isAggD d then (match P.info? t with
      | some i => (aloads σ a i.size).map fun vs => .agg vs.toArray
      | none => none) else aload σ a
theorem xLoadVar_ok (h : WR j σ w) {t : TypeId} {a : Addr} {im : Im} (hj : j a.block = some im) {v : Value} (hl : xLoadVar P σ t a = some v) :
    ∃ v', (loadVar t { a with block := im.b }).run P w = .ok v' w ∧ VR j v v' := by
  unfold xLoadVar at hl
  split at hl
  · cases hl
  · rename_i d hd
    split at hl
    · rename_i hag
      split at hl
      · rename_i i hi
        simp only [Option.map_eq_some_iff] at hl
        obtain ⟨vs, h1, rfl⟩ := hl
        obtain ⟨vs', h2, h3, _⟩ := loads_ok P h hj h1
        refine ⟨.agg vs'.toArray, ?_, .agg _ _ (by simpa using h3)⟩
        simp [loadVar, isAgg_run hd, hag, size_run hi, h2]
      · cases hl
    · rename_i hag
      obtain ⟨v', h1, h2⟩ := load_ok h hj hl
      refine ⟨v', ?_, h2⟩
      simp [loadVar, isAgg_run hd, hag, h1]

def xStoreVar (P : Program) (σ : Mem) (t : TypeId) (a : Addr) (v : Value) : Option Mem :=
  match P.info? t with
  | some i => if v.cells.size = i.size then astores σ a v.cells.toList else none
  | none => none
theorem xStoreVar_ok (h : WR j σ w) {t : TypeId} {a : Addr} {im : Im} (hj : j a.block = some im) {v v' : Value} (hv : VR j v v') {σ' : Mem} (hl : xStoreVar P σ t a v = some σ') :
    ∃ w', (storeVar t { a with block := im.b } v').run P w = .ok () w' ∧ WR j σ' w' ∧ Ext j σ w j σ' w' := by
  unfold xStoreVar at hl
  split at hl
  · rename_i i hi
    split at hl
    · rename_i hsz
      obtain ⟨w', h1, h2⟩ := stores_ok P h hj hl hv.cells
      refine ⟨w', ?_, h2⟩
      have : ¬ (v'.cells.size ≠ i.size) := by rw [hv.cells_size]; simpa using hsz
      simp only [storeVar, Sem.run_bind, size_run hi, Result.andThen_ok, this, if_false]
      simpa using h1
    · cases hl
  · cases hl

/-- what an operation leaves -/
def Yields (P : Program) (j : J) (σ : Mem) (w : World) (m : Sem Value) (v : Value) (σ' : Mem) : Prop :=
  ∃ j' w' v', m.run P w = .ok v' w' ∧ WR j' σ' w' ∧ Ext j σ w j' σ' w' ∧ VR j' v v'
theorem Yields.same (h : WR j σ w) {m : Sem Value} {v v' : Value} (hr : m.run P w = .ok v' w) (hv : VR j v v') : Yields P j σ w m v σ :=
  ⟨j, w, v', hr, h, Ext.refl j σ w, hv⟩

def xLoad (P : Program) (σ : Mem) (t : TypeId) : Value → Option Value
  | .pointer (some a) => xLoadVar P σ t a
  | _ => none
theorem xLoad_ok (h : WR j σ w) {t : TypeId} {x x' v : Value} (hx : VR j x x') (hl : xLoad P σ t x = some v) : Yields P j σ w (Instr.loadAt t x') v σ := by
  unfold xLoad at hl
  split at hl
  · obtain ⟨im, hj, rfl⟩ := hx.ptr_inv
    obtain ⟨v', h1, h2⟩ := xLoadVar_ok h hj hl
    exact Yields.same h (by simp [Instr.loadAt, Instr.sureAddr, h1]) h2
  · cases hl

def xStore (P : Program) (σ : Mem) (t : TypeId) : Value → Value → Option Mem
  | .pointer (some a), v => xStoreVar P σ t a v
  | _, _ => none
theorem xStore_ok (h : WR j σ w) {t : TypeId} {x x' v v' : Value} (hx : VR j x x') (hv : VR j v v') {σ' : Mem} (hl : xStore P σ t x v = some σ') :
    ∃ w', (Instr.storeAt t x' v').run P w = .ok () w' ∧ WR j σ' w' ∧ Ext j σ w j σ' w' := by
  unfold xStore at hl
  split at hl
  · obtain ⟨im, hj, rfl⟩ := hx.ptr_inv
    obtain ⟨w', h1, h2⟩ := xStoreVar_ok h hj hv hl
    exact ⟨w', by simp [Instr.storeAt, Instr.sureAddr, h1], h2⟩
  · cases hl

def xField (P : Program) (s : TypeId) (x : Value) (field : Nat) : Option Value :=
  match x, P.underlying s with
  | .pointer (some a), some (.struct fields) =>
    match fields[field]? with
    | some f => (match P.info? f.type with
      | some i => if i.size = 0 then none else some (.pointer (some (a.add f.offset)))
      | none => none)
    | none => none
  | _, _ => none
theorem xField_ok (h : WR j σ w) {s : TypeId} {x x' v : Value} {field : Nat} (hx : VR j x x') (hl : xField P s x field = some v) : Yields P j σ w (Instr.fieldAt s x' field) v σ := by
  unfold xField at hl
  split at hl
  · rename_i fields hd
    split at hl
    · rename_i f hf
      split at hl
      · rename_i i hi
        split at hl
        · cases hl
        · rename_i hne
          cases hl
          obtain ⟨im, hj, rfl⟩ := hx.ptr_inv
          refine Yields.same h ?_ (VR.ptr_add hj f.offset)
          simp [Instr.fieldAt, run_underlying hd, hf, Instr.sureAddr, fieldPlace, size_run hi, hne]
      · cases hl
    · cases hl
  · cases hl

def xIndexAt (P : Program) (t : TypeId) (x ix : Value) : Option Value :=
  match ix, P.underlying t, x with
  | .int _ i, some (.array len e), .pointer (some a) | .int _ i, some (.slice e), .slice (some a) len _ =>
    (match P.info? e with
      | some inf => if 0 ≤ i ∧ i < len then some (.pointer (some (a.add (i.toNat * inf.size)))) else none
      | none => none)
  | _, _, _ => none
theorem xIndexAt_ok (h : WR j σ w) {t : TypeId} {x x' ix ix' v : Value} (hx : VR j x x') (hi : VR j ix ix') (hl : xIndexAt P t x ix = some v) :
    Yields P j σ w (Instr.indexAt t x' ix') v σ := by
  unfold xIndexAt at hl
  split at hl
  · rename_i k i len e a hd
    split at hl
    · rename_i inf hin
      split at hl
      · rename_i hb
        cases hl
        obtain ⟨im, hj, rfl⟩ := hx.ptr_inv
        obtain rfl := hi.int_inv
        refine Yields.same h ?_ (VR.ptr_add hj _)
        simp [Instr.indexAt, run_underlying hd, Instr.sureAddr, asIntOf, hb, size_run hin]
      · cases hl
    · cases hl
  · rename_i k i e a len c hd
    split at hl
    · rename_i inf hin
      split at hl
      · rename_i hb
        cases hl
        obtain ⟨im, c', hj, _, rfl⟩ := hx.slice_inv
        obtain rfl := hi.int_inv
        refine Yields.same h ?_ (VR.ptr_add hj _)
        simp [Instr.indexAt, run_underlying hd, asIntOf, hb, size_run hin]
      · cases hl
    · cases hl
  · cases hl

def xPart (P : Program) (t : TypeId) (cs : Array Value) (off : Nat) : Option Value :=
  match P.underlying t with
  | none => none
  | some d => if isAggD d then (match P.info? t with
      | some i => some (.agg (cs.extract off (off + i.size)))
      | none => none) else cs[off]?
theorem VRs.extract {cs cs' : Array Value} (h : VRs j cs.toList cs'.toList) (a b : Nat) : VRs j (cs.extract a b).toList (cs'.extract a b).toList := by
  simp only [Array.toList_extract, List.extract]
  exact (h.drop a).take (b - a)
theorem VRs.getA {cs cs' : Array Value} (h : VRs j cs.toList cs'.toList) {i : Nat} {v : Value} (hi : cs[i]? = some v) : ∃ v', cs'[i]? = some v' ∧ VR j v v' := by
  obtain ⟨v', h1, h2⟩ := h.get (i := i) (v := v) (by simpa using hi)
  exact ⟨v', by simpa using h1, h2⟩
theorem xPart_ok {t : TypeId} {cs cs' : Array Value} {off : Nat} {v : Value} (h : VRs j cs.toList cs'.toList) (hl : xPart P t cs off = some v) :
    ∃ v', (part t cs' off).run P w = .ok v' w ∧ VR j v v' := by
  unfold xPart at hl
  split at hl
  · cases hl
  · rename_i d hd
    split at hl
    · rename_i hag
      split at hl
      · rename_i i hi
        cases hl
        exact ⟨_, by simp [part, isAgg_run hd, hag, size_run hi], .agg _ _ (h.extract _ _)⟩
      · cases hl
    · rename_i hag
      obtain ⟨v', h1, h2⟩ := h.getA hl
      exact ⟨v', by simp [part, isAgg_run hd, hag, h1], h2⟩

def xFieldV (P : Program) (t : TypeId) (x : Value) (field : Nat) : Option Value :=
  match x, P.underlying t with
  | .agg cs, some (.struct fields) => (match fields[field]? with
    | some f => xPart P f.type cs f.offset
    | none => none)
  | _, _ => none
theorem xFieldV_ok (h : WR j σ w) {t : TypeId} {x x' v : Value} {field : Nat} (hx : VR j x x') (hl : xFieldV P t x field = some v) : Yields P j σ w (Instr.field t x' field) v σ := by
  unfold xFieldV at hl
  split at hl
  · rename_i cs fields hd
    split at hl
    · rename_i f hf
      obtain ⟨cs', rfl, hc⟩ := hx.agg_inv
      obtain ⟨v', h1, h2⟩ := xPart_ok (w := w) hc hl
      exact Yields.same h (by simp [Instr.field, run_underlying hd, hf, asAgg, h1]) h2
    · cases hl
  · cases hl

def xIndex (P : Program) (t : TypeId) (x ix : Value) : Option Value :=
  match ix, P.underlying t, x with
  | .int _ i, some (.array len e), .agg cs => (match P.info? e with
      | some inf => if 0 ≤ i ∧ i < len then xPart P e cs (i.toNat * inf.size) else none
      | none => none)
  | .int _ i, some .string, .string s => if 0 ≤ i then (match s[i.toNat]? with | some b => some (.int .u8 b.toNat) | none => none) else none
  | _, _, _ => none
theorem xIndex_ok (h : WR j σ w) {t : TypeId} {x x' ix ix' v : Value} (hx : VR j x x') (hi : VR j ix ix') (hl : xIndex P t x ix = some v) :
    Yields P j σ w (Instr.index t x' ix') v σ := by
  unfold xIndex at hl
  split at hl
  · rename_i k i len e cs hd
    split at hl
    · rename_i inf hin
      split at hl
      · rename_i hb
        obtain ⟨cs', rfl, hc⟩ := hx.agg_inv
        obtain rfl := hi.int_inv
        obtain ⟨v', h1, h2⟩ := xPart_ok (w := w) hc hl
        exact Yields.same h (by simp [Instr.index, run_underlying hd, asIntOf, hb, size_run hin, h1]) h2
      · cases hl
    · cases hl
  · rename_i k i s hd
    split at hl
    · rename_i h0
      split at hl
      · rename_i b hb
        cases hl
        obtain rfl := hx.string_inv
        obtain rfl := hi.int_inv
        exact Yields.same h (by simp [Instr.index, run_underlying hd, asIntOf, h0, hb]) (.int _ _)
      · cases hl
    · cases hl
  · cases hl
end
end Go.Ab
