import Derived.Test.YtgfncelakfdmlaaGreatDoorAbReg
/-! Operations that only make a block: they may come ahead of a call or behind it. -/
namespace Go.Ab
open Go

def softOp : Op → Bool
  | .alloc _ | .buildSlice _ _ _ | .makeSlice _ _ _ | .box _ _ => true
  | _ => false
def bare (id : Nat) : Mem := ⟨id, 0, .nil⟩
def softRes (P : Program) (a : Tm) (σ : Mem) (id : Nat) : Op → Option (Value × Mem)
  | .alloc t => xAlloc P (bare id) t
  | .box t x => (aev a σ x).map fun v => xNew (bare id) t v.cells.toList
  | .buildSlice t n ps => (aevp a σ ps.toList).bind fun l => xBuildSlice P (bare id) t n l
  | .makeSlice t l c => (match aev a σ l, aev a σ c with
    | some u, some v => xMakeSlice P (bare id) t u v
    | _, _ => none)
  | _ => none
def asoft (P : Program) (a : Tm) (σ : Mem) (id : Nat) (o : Oper) : Option (Value × Blk) := (softRes P a σ id o.op).bind fun r => (r.2.get id).map fun b => (r.1, b)

structure SoftOK (P : Program) (j : J) (w : World) (id : Nat) (v : Value) (blk : Blk) (m : Sem Value) : Prop where
  h : ∃ cs T cs' v', blk = .row cs T (0, 0) ∧ m.run P w = .ok v' { w with heap := w.heap.push (.cells cs'.toArray T (0, 0)) } ∧ VRs j cs cs' ∧ ∀ j', j' id = some ⟨w.heap.size, cs.length⟩ → VR j' v v'

section
variable {P : Program} {j : J} {σ : Mem} {w : World} {a : Tm} {c : Act} {id : Nat}
theorem newRow_run (w : World) (T : TypeId) (vs : List Value) : (newRow T vs.toArray).run P w = .ok ⟨w.heap.size, 0, none⟩ { w with heap := w.heap.push (.cells vs.toArray T (0, 0)) } := by
  simp [newRow, newObj, bind, Sem.bind, Sem.run, pure]
theorem get_bare_new (id : Nat) (x : Blk) : ((bare id).new x).get id = some x := by rw [Mem.get_new]; simp [bare]

theorem soft_alloc {t : TypeId} {r : Value × Mem} {blk : Blk} (hl : xAlloc P (bare id) t = some r) (hb : r.2.get id = some blk) : SoftOK P j w id r.1 blk (Instr.alloc t true (.tuple #[])) := by
  unfold xAlloc at hl
  split at hl
  · rename_i i hi
    split at hl
    · rename_i z hz
      split at hl
      · rename_i hp
        cases hl
        simp only [xNew] at hb ⊢
        rw [get_bare_new] at hb; cases hb
        refine ⟨_, _, z.cells.toList, _, rfl, ?_, VRs.of_plain hp, fun j' hj => .ptr ⟨id, 0, none⟩ _ hj⟩
        have hr := newRow_run (P := P) w t z.cells.toList
        simp only [Array.toArray_toList] at hr
        simp [Instr.alloc, Sem.run_bind, zero_run hi hz, Result.andThen_ok, newVar, hr]
      · cases hl
    · cases hl
  · cases hl
theorem soft_box {t : TypeId} {v v' : Value} (hv : VR j v v') {blk : Blk} (hb : (xNew (bare id) t v.cells.toList).2.get id = some blk) : SoftOK P j w id (xNew (bare id) t v.cells.toList).1 blk (Instr.box t v') := by
  simp only [xNew] at hb ⊢
  rw [get_bare_new] at hb; cases hb
  refine ⟨_, _, v'.cells.toList, _, rfl, ?_, hv.cells, fun j' hj => .ptr ⟨id, 0, none⟩ _ hj⟩
  have hr := newRow_run (P := P) w t v'.cells.toList
  simp only [Array.toArray_toList] at hr
  simp [Instr.box, newVar, hr]
theorem soft_build {t : TypeId} {len : Nat} {parts : List (Nat × Value)} {parts' : Array (Nat × Value)} (hp : PRs j parts parts'.toList) {r : Value × Mem} {blk : Blk}
    (hl : xBuildSlice P (bare id) t len parts = some r) (hb : r.2.get id = some blk) : SoftOK P j w id r.1 blk (Instr.buildSlice t len parts') := by
  unfold xBuildSlice at hl
  split at hl
  · rename_i e hd
    split at hl
    · rename_i i hi
      split at hl
      · rename_i z hz
        split at hl
        · rename_i hc
          simp only [Bool.and_eq_true, decide_eq_true_eq] at hc
          obtain ⟨⟨hpl, hle⟩, hbig⟩ := hc
          split at hl
          · rename_i cs hf
            cases hl
            simp only [xSliceVal] at hb ⊢
            rw [get_bare_new] at hb; cases hb
            have hzp : VRs j (zeros (if len * i.size = 0 then #[] else z.cells) (len * i.size)) (((Array.range (len * i.size)).map fun k => (if len * i.size = 0 then #[] else z.cells)[k % (if len * i.size = 0 then #[] else z.cells).size]!)).toList := by
              have e1 : (((Array.range (len * i.size)).map fun k => (if len * i.size = 0 then #[] else z.cells)[k % (if len * i.size = 0 then #[] else z.cells).size]!)).toList = zeros (if len * i.size = 0 then #[] else z.cells) (len * i.size) := by
                simp [zeros]
              rw [e1]
              exact VRs.of_plain (zeros_plain (by split <;> simp_all) _)
            obtain ⟨r', h2, h3⟩ := fill_ok hp hzp hf
            have g1 := newRow_run (P := P) w e r'.toList
            refine ⟨_, _, r'.toList, .slice (some ⟨w.heap.size, 0, none⟩) len len, rfl, ?_, h3, fun j' hj => .slice ⟨id, 0, none⟩ ⟨w.heap.size, cs.length⟩ len len len hj (by simp [CapR, hbig])⟩
            have hnot : ¬ (len * i.size > 2 ^ 24) := by simp; omega
            simp only [Array.toArray_toList] at g1
            simp only [Instr.buildSlice, Sem.run_bind, run_underlying hd, Result.andThen_ok, size_run hi, hnot, if_false, Sem.run_ite]
            by_cases h0 : len * i.size = 0
            · simp only [h0, if_true, Sem.run_pure, Result.andThen_ok] at h2 ⊢
              rw [h2]; simp [g1]
            · simp only [h0, if_false, Sem.run_bind, zero_run hi hz, Sem.run_pure, Result.andThen_ok] at h2 ⊢
              rw [h2]; simp [g1]
          · cases hl
        · cases hl
      · cases hl
    · cases hl
  · cases hl
theorem soft_make {t : TypeId} {len len' cap cap' : Value} (h1 : VR j len len') (h2 : VR j cap cap') {r : Value × Mem} {blk : Blk} (hl : xMakeSlice P (bare id) t len cap = some r) (hb : r.2.get id = some blk) :
    SoftOK P j w id r.1 blk (Instr.makeSlice t len' cap') := by
  unfold xMakeSlice at hl
  split at hl
  case h_2 => cases hl
  rename_i e k l k' c hd
  split at hl
  case h_2 => cases hl
  rename_i i hi
  split at hl
  case h_2 => cases hl
  rename_i z hz
  split at hl
  case isFalse => cases hl
  rename_i hc
  simp only [Bool.and_eq_true, decide_eq_true_eq] at hc
  obtain ⟨⟨⟨⟨h0, hlc⟩, hcb⟩, hby⟩, hpl⟩ := hc
  cases hl
  obtain rfl := h1.int_inv
  obtain rfl := h2.int_inv
  simp only at hb ⊢
  rw [get_bare_new] at hb; cases hb
  have hzp : VRs j (zeros (if c.toNat * i.size = 0 then #[] else z.cells) (c.toNat * i.size)) (zeros (if c.toNat * i.size = 0 then #[] else z.cells) (c.toNat * i.size)) :=
    VRs.of_plain (zeros_plain (by split <;> simp_all) _)
  have g1 := newRow_run (P := P) w e (zeros (if c.toNat * i.size = 0 then #[] else z.cells) (c.toNat * i.size))
  refine ⟨_, _, _, .slice (some ⟨w.heap.size, 0, none⟩) l.toNat c.toNat, rfl, ?_, hzp, fun j' hj => .slice ⟨id, 0, none⟩ ⟨w.heap.size, _⟩ _ _ _ hj (.of_known (by unfold BIG; omega))⟩
  have w1 : IntKind.i64.wrap l = l := wrap_i64 h0 (by omega)
  have w2 : IntKind.i64.wrap c = c := wrap_i64 (by omega) (by omega)
  have hprod : (i.bytes : Int) * c ≤ 2 ^ 48 := by
    have h1 : (i.bytes : Int) * c ≤ 16777216 * 16777216 := Int.mul_le_mul (by omega) hcb (by omega) (by omega)
    omega
  have hcond : ((decide (c < 0) || decide ((i.bytes : Int) * c > 2 ^ 48)) || decide (l < 0) || decide (l > c)) = false := by
    simp only [Bool.or_eq_false_iff, decide_eq_false_iff_not]
    omega
  have e1 : ∀ (zz : Array Value) (n : Nat), ((Array.range n).map fun k => zz[k % zz.size]!) = (zeros zz n).toArray := by
    intro zz n; apply Array.toList_inj.1; simp [zeros]
  simp only [Instr.makeSlice, Sem.run_bind, run_underlying hd, Result.andThen_ok, asInt, asIntOf, Sem.run_pure, info_run hi, w1, w2, hcond, Bool.false_eq_true, if_false, run_askRoom, size_run hi, Sem.run_ite]
  by_cases hn0 : c.toNat * i.size = 0
  · simp only [hn0, if_true, Sem.run_pure, Result.andThen_ok] at g1 ⊢
    rw [e1, g1]; rfl
  · simp only [hn0, if_false, zero_run hi hz, Sem.run_bind, Sem.run_pure, Result.andThen_ok] at g1 ⊢
    rw [e1, g1]; rfl

theorem asoft_ok (h : WR j σ w) (ha : TmR j a c.tmps) {o : Oper} {v : Value} {blk : Blk} (hl : asoft P a σ id o = some (v, blk)) :
    ∃ cs T cs' v', blk = .row cs T (0, 0) ∧ (execOp c.eval o).run P w = .ok (.value v') { w with heap := w.heap.push (.cells cs'.toArray T (0, 0)) } ∧ VRs j cs cs' ∧ ∀ j', j' id = some ⟨w.heap.size, cs.length⟩ → VR j' v v' := by
  have key : ∀ {m : Sem Value}, SoftOK P j w id v blk m → ∃ cs T cs' v', blk = .row cs T (0, 0) ∧ ((do pure (.value (← m)) : Sem Next).run P w) = .ok (.value v') { w with heap := w.heap.push (.cells cs'.toArray T (0, 0)) } ∧ VRs j cs cs' ∧ ∀ j', j' id = some ⟨w.heap.size, cs.length⟩ → VR j' v v' := by
    rintro m ⟨cs, T, cs', v', h1, h2, h3, h4⟩
    exact ⟨cs, T, cs', v', h1, by simp only [Sem.run_bind, h2, Result.andThen_ok, Sem.run_pure], h3, h4⟩
  unfold asoft at hl
  simp only [Option.bind_eq_some_iff, Option.map_eq_some_iff, Prod.mk.injEq] at hl
  obtain ⟨r, hr, b, hb, rfl, rfl⟩ := hl
  unfold softRes at hr
  unfold execOp
  split at hr
  · rename_i t ho
    simp only [ho]
    exact key (soft_alloc hr hb)
  · rename_i t x ho
    simp only [Option.map_eq_some_iff] at hr
    obtain ⟨u, hu, rfl⟩ := hr
    simp only [ho]
    exact key (soft_box (aev_ok h ha hu) hb)
  · rename_i t n ps ho
    simp only [Option.bind_eq_some_iff] at hr
    obtain ⟨l, hp, hr⟩ := hr
    simp only [ho]
    exact key (soft_build (by simpa using aevp_ok h ha hp) hr hb)
  · rename_i t l cc ho
    split at hr
    · rename_i u u' hu hu'
      simp only [ho]
      exact key (soft_make (aev_ok h ha hu) (aev_ok h ha hu') hr hb)
    · cases hr
  · cases hr
end
end Go.Ab
