import Derived.Test.YtgfncelakfdmlaaGreatDoorAbExec7
import Derived.IntWalk
/-! make, copy, min, max. -/
namespace Go.Ab
open Go

section
variable {P : Program} {j : J} {σ : Mem} {w : World}

theorem wrap_i64 {n : Int} (h0 : 0 ≤ n) (h1 : n ≤ 1099511627776) : IntKind.i64.wrap n = n := IntWalk.i64_in n (by constructor <;> omega)

def xMakeSlice (P : Program) (σ : Mem) (t : TypeId) (len cap : Value) : Option (Value × Mem) :=
  match P.underlying t, len, cap with
  | some (.slice e), .int _ l, .int _ c => (match P.info? e with
    | some i => (match i.zero with
      | some z => if decide (0 ≤ l) && decide (l ≤ c) && decide (c ≤ 16777216) && decide (i.bytes ≤ 16777216) && z.cells.toList.all plain then
          some (.slice (some ⟨σ.next, 0, none⟩) l.toNat c.toNat, σ.new (.row (zeros (if c.toNat * i.size = 0 then #[] else z.cells) (c.toNat * i.size)) e (0, 0)))
        else none
      | none => none)
    | none => none)
  | _, _, _ => none
theorem xMakeSlice_ok (h : WR j σ w) {t : TypeId} {len len' cap cap' : Value} (h1 : VR j len len') (h2 : VR j cap cap') {r : Value × Mem} (hl : xMakeSlice P σ t len cap = some r) :
    Yields P j σ w (Instr.makeSlice t len' cap') r.1 r.2 := by
  unfold xMakeSlice at hl
  split at hl
  case h_2 => cases hl
  rename_i e k l k' c hd
  split at hl
  case h_2 => cases hl
  rename_i i hi
  split at hl
  case h_2 => cases hl
  rename_i z hz
  split at hl
  case isFalse => cases hl
  rename_i hc
  simp only [Bool.and_eq_true, decide_eq_true_eq] at hc
  obtain ⟨⟨⟨⟨h0, hlc⟩, hcb⟩, hby⟩, hpl⟩ := hc
  cases hl
  obtain rfl := h1.int_inv
  obtain rfl := h2.int_inv
  have hzp : VRs j (zeros (if c.toNat * i.size = 0 then #[] else z.cells) (c.toNat * i.size)) (zeros (if c.toNat * i.size = 0 then #[] else z.cells) (c.toNat * i.size)) :=
    VRs.of_plain (zeros_plain (by split <;> simp_all) _)
  obtain ⟨g1, g2, g3⟩ := newRow_ok P h hzp e
  refine ⟨_, _, .slice (some ⟨w.heap.size, 0, none⟩) l.toNat c.toNat, ?_, g2, g3, .slice ⟨σ.next, 0, none⟩ ⟨w.heap.size, _⟩ _ _ _ (upd_same _ _ _) (.of_known (by unfold BIG; omega))⟩
  have w1 : IntKind.i64.wrap l = l := wrap_i64 h0 (by omega)
  have w2 : IntKind.i64.wrap c = c := wrap_i64 (by omega) (by omega)
  have hprod : (i.bytes : Int) * c ≤ 2 ^ 48 := by
    have h1 : (i.bytes : Int) * c ≤ 16777216 * 16777216 := Int.mul_le_mul (by omega) hcb (by omega) (by omega)
    omega
  have hcond : ((decide (c < 0) || decide ((i.bytes : Int) * c > 2 ^ 48)) || decide (l < 0) || decide (l > c)) = false := by
    simp only [Bool.or_eq_false_iff, decide_eq_false_iff_not]
    omega
  have e1 : ∀ (zz : Array Value) (n : Nat), ((Array.range n).map fun k => zz[k % zz.size]!) = (zeros zz n).toArray := by
    intro zz n; apply Array.toList_inj.1; simp [zeros]
  simp only [Instr.makeSlice, Sem.run_bind, run_underlying hd, Result.andThen_ok, asInt, asIntOf, Sem.run_pure, info_run hi, w1, w2, hcond, Bool.false_eq_true, if_false, run_askRoom, size_run hi, Sem.run_ite]
  by_cases hn0 : c.toNat * i.size = 0
  · simp only [hn0, if_true, Sem.run_pure, Result.andThen_ok] at g1 ⊢
    rw [e1, g1]; rfl
  · simp only [hn0, if_false, zero_run hi hz, Sem.run_bind, Sem.run_pure, Result.andThen_ok] at g1 ⊢
    rw [e1, g1]; rfl

/-- the first n elements of what is copied -/
def xFirst (σ : Mem) (size n : Nat) : Value → Option (List Value)
  | .slice (some b) _ _ => aloads σ b (n * size)
  | .slice none _ _ => if n = 0 then some [] else none
  | .string s => if size = 1 then some ((s.data.toList.take n).map fun (b : UInt8) => .int .u8 b.toNat) else none
  | _ => none
def xLenOf : Value → Option Nat
  | .slice _ n _ => some n
  | .string s => some s.size
  | _ => none
theorem xFirst_ok (h : WR j σ w) {size n : Nat} {x x' : Value} (hx : VR j x x') {l : List Value} (hl : xFirst σ size n x = some l) :
    ∃ l', (Builtin.firstCells size n x').run P w = .ok (l' : List Value).toArray w ∧ VRs j l l' := by
  cases x with
  | slice base m c =>
    cases base with
    | none =>
      simp only [xFirst] at hl
      obtain rfl := hx.nils_inv
      split at hl
      · cases hl; exact ⟨[], by simp [Builtin.firstCells], .nil⟩
      · cases hl
    | some b =>
      simp only [xFirst] at hl
      obtain ⟨im, c', hj, _, rfl⟩ := hx.slice_inv
      obtain ⟨l', h1, h2, _⟩ := loads_ok P h hj hl
      exact ⟨l', by simpa [Builtin.firstCells] using h1, h2⟩
  | string s =>
    simp only [xFirst] at hl
    obtain rfl := hx.string_inv
    split at hl
    · cases hl
      refine ⟨(s.data.toList.take n).map fun (b : UInt8) => .int .u8 b.toNat, ?_, VRs.of_plain (bytes_plain _)⟩
      simp only [Builtin.firstCells, Sem.run_pure]
      congr 1
      apply Array.toList_inj.1
      rw [ByteArray.data_extract]
      simp [List.extract]
    · cases hl
  | _ => cases hl
theorem xLenOf_ok {x x' : Value} (hx : VR j x x') {n : Nat} (hl : xLenOf x = some n) (w : World) : (Builtin.lenOf x').run P w = .ok n w := by
  cases hx <;> simp only [xLenOf] at hl <;> cases hl <;> simp [Builtin.lenOf]

def xCopy (P : Program) (σ : Mem) (t : TypeId) (dst src : Value) : Option (Value × Mem) :=
  match P.underlying t, dst, xLenOf src with
  | some (.slice e), .slice base dl _, some sl => (match P.info? e with
    | some i => (match xFirst σ i.size (min sl dl) src with
      | some l => (match base with
        | some a => (astores σ a l).map fun σ' => (.int .i64 (min sl dl : Nat), σ')
        | none => some (.int .i64 (min sl dl : Nat), σ))
      | none => none)
    | none => none)
  | _, _, _ => none
theorem xCopy_ok (h : WR j σ w) {t t' ty : TypeId} {dst dst' src src' : Value} (h1 : VR j dst dst') (h2 : VR j src src') {r : Value × Mem} (hl : xCopy P σ t dst src = some r) :
    Yields P j σ w (Builtin.copy_ #[t, t'] ty #[dst', src']) r.1 r.2 := by
  unfold xCopy at hl
  split at hl
  case h_2 => cases hl
  rename_i e base dl dc sl hd hsl
  split at hl
  case h_2 => cases hl
  rename_i i hi
  split at hl
  case h_2 => cases hl
  rename_i l hfi
  obtain ⟨l', f1, f2⟩ := xFirst_ok (P := P) h h2 hfi
  have hlen := xLenOf_ok (P := P) h2 hsl w
  split at hl
  · rename_i a
    simp only [Option.map_eq_some_iff] at hl
    obtain ⟨σ', hst, rfl⟩ := hl
    obtain ⟨im, c', hj, _, rfl⟩ := h1.slice_inv
    obtain ⟨w', s1, s2, s3⟩ := stores_ok P h hj hst f2
    refine ⟨j, w', .int .i64 (min sl dl : Nat), ?_, s2, s3, .int _ _⟩
    have f1' : (Builtin.firstCells i.size (Nat.min sl dl) src').run P w = .ok l'.toArray w := f1
    simp [Builtin.copy_, run_underlying hd, hlen, size_run hi, f1', s1, goInt]
  · cases hl
    obtain rfl := h1.nils_inv
    refine Yields.same h (v' := .int .i64 (min sl dl : Nat)) ?_ (.int _ _)
    have f1' : (Builtin.firstCells i.size (Nat.min sl dl) src').run P w = .ok l'.toArray w := f1
    simp [Builtin.copy_, run_underlying hd, hlen, size_run hi, f1', goInt]

def xMM (isMax : Bool) (k : IntKind) : Int → List Value → Option Value
  | a, [] => some (.int k a)
  | a, .int _ b :: rest => xMM isMax k (if isMax then (if b > a then b else a) else (if b < a then b else a)) rest
  | _, _ => none
def xMinMax (isMax : Bool) : List Value → Option Value
  | .int k a :: rest => xMM isMax k a rest
  | _ => none
theorem xMM_ok {isMax : Bool} {k : IntKind} {f : Value → Value → Sem Value} (hf : ∀ k' a b, f (.int k a) (.int k' b) = pure (.int k (if isMax then (if b > a then b else a) else (if b < a then b else a)))) (w : World) :
    ∀ {rest rest' : List Value} {a : Int} {v : Value}, VRs j rest rest' → xMM isMax k a rest = some v → (rest'.foldlM f (.int k a)).run P w = .ok v w ∧ ∃ n, v = .int k n
  | [], _, a, v, hv, hl => by cases hv; simp only [xMM] at hl; cases hl; simp
  | x :: rest, _, a, v, hv, hl => by
    cases hv with
    | cons _ x' _ rest' h1 t =>
      cases x with
      | int k' b =>
        simp only [xMM] at hl
        obtain rfl := h1.int_inv
        obtain ⟨r1, r2⟩ := xMM_ok hf w t hl
        refine ⟨?_, r2⟩
        simp only [List.foldlM_cons, hf, pure_bind]
        exact r1
      | _ => cases hl
theorem xMinMax_ok (h : WR j σ w) {isMax : Bool} {at_ : Array TypeId} {ty : TypeId} {xs xs' : List Value} {v : Value} (hv : VRs j xs xs') (hl : xMinMax isMax xs = some v) :
    Yields P j σ w (if isMax then Builtin.max_ at_ ty xs'.toArray else Builtin.min_ at_ ty xs'.toArray) v σ := by
  cases xs with
  | nil => cases hl
  | cons x rest =>
    cases hv with
    | cons _ x' _ rest' h1 t =>
      cases x with
      | int k a =>
        obtain rfl := h1.int_inv
        simp only [xMinMax] at hl
        cases isMax
        · obtain ⟨r1, n, rfl⟩ := xMM_ok (P := P) (f := Builtin.min2) (fun _ _ _ => rfl) w t hl
          exact Yields.same h (by simpa [Builtin.min_] using r1) (.int _ _)
        · obtain ⟨r1, n, rfl⟩ := xMM_ok (P := P) (f := Builtin.max2) (fun _ _ _ => rfl) w t hl
          exact Yields.same h (by simpa [Builtin.max_] using r1) (.int _ _)
      | _ => cases hl

def xExtract (x : Value) (i : Nat) : Option Value :=
  match x with
  | .tuple vs => vs[i]?
  | _ => none
theorem xExtract_ok (h : WR j σ w) {x x' v : Value} {i : Nat} (hx : VR j x x') (hl : xExtract x i = some v) : Yields P j σ w (Instr.extract x' i) v σ := by
  unfold xExtract at hl
  split at hl
  · obtain ⟨cs', rfl, hc⟩ := hx.tuple_inv
    obtain ⟨v', h1, h2⟩ := hc.getA hl
    exact Yields.same h (by simp [Instr.extract, h1]) h2
  · cases hl
end
end Go.Ab
