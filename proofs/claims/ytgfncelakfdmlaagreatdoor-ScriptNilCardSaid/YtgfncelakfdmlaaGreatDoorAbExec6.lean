import Derived.Test.YtgfncelakfdmlaaGreatDoorAbExec5
import Derived.Laws.StructEq
/-! Arithmetic, comparisons, conversions. -/
namespace Go.Ab
open Go

section
variable {P : Program} {j : J} {σ : Mem} {w : World}

def xInt (op : BinOp) (k : IntKind) (a b : Int) : Option Value :=
  match op with
  | .add => some (.int k (k.wrap (a + b)))
  | .sub => some (.int k (k.wrap (a - b)))
  | .mul => some (.int k (k.wrap (a * b)))
  | .quo => if b = 0 then none else some (.int k (k.wrap (a.tdiv b)))
  | .rem => if b = 0 then none else some (.int k (a.tmod b))
  | .and => some (.int k (k.wrap (BitVec.ofInt k.bits a &&& BitVec.ofInt k.bits b).toNat))
  | .or => some (.int k (k.wrap (BitVec.ofInt k.bits a ||| BitVec.ofInt k.bits b).toNat))
  | .xor => some (.int k (k.wrap (BitVec.ofInt k.bits a ^^^ BitVec.ofInt k.bits b).toNat))
  | .andNot => some (.int k (k.wrap (BitVec.ofInt k.bits a &&& ~~~BitVec.ofInt k.bits b).toNat))
  | .eql => some (.bool (a == b))
  | .neq => some (.bool (a != b))
  | .lss => some (.bool (a < b))
  | .leq => some (.bool (a ≤ b))
  | .gtr => some (.bool (a > b))
  | .geq => some (.bool (a ≥ b))
  | .shl | .shr => none
theorem xInt_ok {op : BinOp} {k : IntKind} {a b : Int} {v : Value} (hl : xInt op k a b = some v) (t : TypeId) (w : World) : (binOp op t (.int k a) (.int k b)).run P w = .ok v w := by
  cases op <;> simp only [xInt] at hl
  case quo => split at hl <;> cases hl; rename_i h; simp [binOp, Op.intDiv, h]
  case rem => split at hl <;> cases hl; rename_i h; simp [binOp, Op.intDiv, h]
  all_goals first | (cases hl; done) | (cases hl; simp [binOp, Op.intArith, Op.intBits, Op.intCmp])

def xShift (op : BinOp) (k : IntKind) (a b : Int) : Option Value :=
  if b < 0 then none else match op with
  | .shl => some (.int k (k.wrap (a * 2 ^ (min b.toNat k.bits))))
  | .shr => some (.int k (a.fdiv (2 ^ (min b.toNat k.bits))))
  | _ => none
theorem xShift_ok {op : BinOp} {k k' : IntKind} {a b : Int} {v : Value} (hl : xShift op k a b = some v) (t : TypeId) (w : World) : (binOp op t (.int k a) (.int k' b)).run P w = .ok v w := by
  unfold xShift at hl
  split at hl
  · cases hl
  · rename_i hb
    cases op <;> simp only at hl <;> cases hl <;> simp [binOp, Op.shift, hb]

def xLt : List UInt8 → List UInt8 → Bool := Op.bytesLess
def xCat (a b : ByteArray) : ByteArray := ⟨(a.data.toList ++ b.data.toList).toArray⟩
theorem xCat_eq (a b : ByteArray) : a ++ b = xCat a b := by
  apply ByteArray.ext
  rw [ByteArray.data_append]
  apply Array.toList_inj.1
  simp [xCat]
def xStr (op : BinOp) (a b : ByteArray) : Option Value :=
  match op with
  | .add => if a.size + b.size ≤ 1099511627776 then some (.string (xCat a b)) else none
  | .eql => some (.bool (a.data.toList == b.data.toList))
  | .neq => some (.bool !(a.data.toList == b.data.toList))
  | .lss => some (.bool (Op.bytesLess a.data.toList b.data.toList))
  | .leq => some (.bool (Op.bytesLess a.data.toList b.data.toList || a.data.toList == b.data.toList))
  | .gtr => some (.bool !(Op.bytesLess a.data.toList b.data.toList || a.data.toList == b.data.toList))
  | .geq => some (.bool !(Op.bytesLess a.data.toList b.data.toList))
  | _ => none
theorem xStr_ok {op : BinOp} {a b : ByteArray} {v : Value} (hl : xStr op a b = some v) (t : TypeId) (w : World) : (binOp op t (.string a) (.string b)).run P w = .ok v w := by
  cases op <;> simp only [xStr] at hl
  case add =>
    split at hl <;> cases hl
    rename_i h
    have hm : ¬ (((a.size + b.size : Nat) : Int) > IntKind.i64.max) := by
      have : IntKind.i64.max = 9223372036854775807 := rfl
      rw [this]; omega
    rw [binOp, Op.stringOp]
    simp only [hm, if_false, Sem.run_pure, xCat_eq]
    all_goals simp
  all_goals (first | (cases hl; done) | (cases hl; simp [binOp, Op.stringOp, ByteArray.toList_eq]))

def xEqFields (P : Program) (eq : TypeId → Value → Value → Option Bool) (xs ys : Array Value) : List Field → Option Bool
  | [] => some true
  | f :: fs =>
    if f.name ≠ "_" then
      (match xPart P f.type xs f.offset, xPart P f.type ys f.offset with
      | some a, some b => (match eq f.type a b with
        | some true => xEqFields P eq xs ys fs
        | r => r)
      | _, _ => none)
    else xEqFields P eq xs ys fs
def xEq (P : Program) : Nat → TypeId → Value → Value → Option Bool
  | 0, _, _, _ => none
  | d + 1, t, x, y =>
    match P.underlying t, x, y with
    | some .bool, .bool a, .bool b => some (a == b)
    | some (.int _), .int k a, .int k' b => if k = k' then some (a == b) else none
    | some .string, .string a, .string b => some (a.data.toList == b.data.toList)
    | some (.pointer _), .pointer none, .pointer b => some b.isNone
    | some (.pointer _), .pointer (some _), .pointer none => some false
    | some (.pointer e), .pointer (some a), .pointer (some b) => if a.block = b.block then (match P.info? e with
        | some i => if i.size = 0 then none else some (decide (a = b))
        | none => none) else none
    | some (.interface _), .nilIface, .nilIface => some true
    | some (.interface _), .nilIface, .iface _ _ => some false
    | some (.interface _), .iface _ _, .nilIface => some false
    | some (.interface _), .iface tx vx, .iface ty vy =>
      if tx ≠ ty then some false else (match P.info? tx with
        | some i => if i.comparable then xEq P d tx vx vy else none
        | none => none)
    | some (.struct fields), .agg xs, .agg ys => if P.stoodInHeld t then none else xEqFields P (xEq P d) xs ys fields.toList
    | some (.slice _), .slice none _ _, .slice b _ _ => some b.isNone
    | some (.slice _), .slice (some _) _ _, .slice none _ _ => some false
    | some (.map _ _), .map none, .map b => some b.isNone
    | some (.map _ _), .map (some _), .map none => some false
    | some (.func _ _ _), .nilFunc, .nilFunc => some true
    | some (.func _ _ _), .nilFunc, .func _ _ _ => some false
    | some (.func _ _ _), .func _ _ _, .nilFunc => some false
    | _, _, _ => none

theorem xEqFields_ok {eq : TypeId → Value → Value → Option Bool} {D : Nat} (heq : ∀ {t x y x' y' b} (w : World), VR j x x' → VR j y y' → eq t x y = some b → (Op.equalIn D t x' y').run P w = .ok b w)
    {xs ys xs' ys' : Array Value} (hx : VRs j xs.toList xs'.toList) (hy : VRs j ys.toList ys'.toList) : ∀ {fs : List Field} {b : Bool}, xEqFields P eq xs ys fs = some b → ∀ w : World, (Op.eqFields D xs' ys' fs).run P w = .ok b w
  | [], b, h, w => by simp only [xEqFields] at h; cases h; simp [Op.eqFields]
  | f :: fs, b, h, w => by
    simp only [xEqFields] at h
    simp only [Op.eqFields, Sem.run_ite]
    split at h
    · rename_i hn
      rw [if_pos hn]
      split at h
      · rename_i a c ha hc
        obtain ⟨a', a1, a2⟩ := xPart_ok (w := w) hx ha
        obtain ⟨c', c1, c2⟩ := xPart_ok (w := w) hy hc
        simp only [Sem.run_bind, a1, c1, Result.andThen_ok]
        split at h
        · rename_i he
          rw [heq w a2 c2 he]
          simp only [Result.andThen_ok, Bool.not_true, Bool.false_eq_true, if_false]
          exact xEqFields_ok heq hx hy h w
        · rename_i he
          rw [heq w a2 c2 h]
          cases b
          · simp
          · exact absurd h he
      · cases h
    · rename_i hn
      rw [if_neg hn]
      exact xEqFields_ok heq hx hy h w

set_option maxHeartbeats 2000000 in
theorem xEq_ok (d : Nat) : ∀ (D : Nat), d ≤ D → ∀ {t : TypeId} {x y x' y' : Value} {b : Bool} (w : World), VR j x x' → VR j y y' → xEq P d t x y = some b → (Op.equalIn D t x' y').run P w = .ok b w := by
  induction d with
  | zero => intro D _ t x y x' y' b w _ _ h; simp [xEq] at h
  | succ d ih =>
    intro D hD t x y x' y' b w hx hy h
    obtain ⟨D, rfl⟩ : ∃ n, D = n + 1 := ⟨D - 1, by omega⟩
    have ih' : ∀ {t x y x' y' b} (w : World), VR j x x' → VR j y y' → xEq P d t x y = some b → (Op.equalIn D t x' y').run P w = .ok b w := fun w => ih D (by omega) w
    clear ih
    simp only [xEq] at h
    split at h
    · rename_i hd; cases h; obtain rfl := hx.bool_inv; obtain rfl := hy.bool_inv; simp [Op.equalIn, run_underlying hd]
    · rename_i hd
      obtain rfl := hx.int_inv; obtain rfl := hy.int_inv
      split at h
      · rename_i hk; cases h; subst hk; simp [Op.equalIn, run_underlying hd]
      · cases h
    · rename_i hd; cases h; obtain rfl := hx.string_inv; obtain rfl := hy.string_inv; simp [Op.equalIn, run_underlying hd, beq_toListBytes, ByteArray.toList_eq]
    · rename_i p hd; cases h; cases hx; cases hy <;> simp [Op.equalIn, run_underlying hd]
    · rename_i hd; cases h; obtain ⟨im, _, rfl⟩ := hx.ptr_inv; cases hy; simp [Op.equalIn, run_underlying hd]
    · rename_i e a c hd
      split at h
      · rename_i hbl
        split at h
        · rename_i i hi
          split at h
          · cases h
          · rename_i hsz
            cases h
            obtain ⟨im, hj, rfl⟩ := hx.ptr_inv
            obtain ⟨im2, hj2, rfl⟩ := hy.ptr_inv
            rw [← hbl, hj] at hj2
            cases hj2
            have key : (({ a with block := im.b } : Addr) == ({ c with block := im.b } : Addr)) = decide (a = c) := by
              obtain ⟨b1, o1, s1⟩ := a
              obtain ⟨b2, o2, s2⟩ := c
              simp only at hbl
              subst hbl
              by_cases he : o1 = o2 ∧ s1 = s2
              · obtain ⟨rfl, rfl⟩ := he; simp
              · have h1 : ¬ ((⟨im.b, o1, s1⟩ : Addr) = ⟨im.b, o2, s2⟩) := by simp; intro h; exact fun h2 => he ⟨h, h2⟩
                have h2 : ¬ ((⟨b1, o1, s1⟩ : Addr) = ⟨b1, o2, s2⟩) := by simp; intro h; exact fun h2 => he ⟨h, h2⟩
                simp [h1, h2]
            have hsz' : ¬ (i.size = 0) := hsz
            simp [Op.equalIn, run_underlying hd, size_run hi, hsz', sameAddr, key]
        · cases h
      · cases h
    · rename_i hd; cases h; cases hx; cases hy; simp [Op.equalIn, run_underlying hd]
    · rename_i hd; cases h; cases hx; obtain ⟨u, rfl, _⟩ := hy.iface_inv; simp [Op.equalIn, run_underlying hd]
    · rename_i hd; cases h; obtain ⟨u, rfl, _⟩ := hx.iface_inv; cases hy; simp [Op.equalIn, run_underlying hd]
    · rename_i hd
      obtain ⟨u, rfl, hu⟩ := hx.iface_inv
      obtain ⟨v, rfl, hv⟩ := hy.iface_inv
      split at h
      · rename_i hne; cases h; simp [Op.equalIn, run_underlying hd, hne]
      · rename_i heq
        simp only [ne_eq, Decidable.not_not] at heq
        subst heq
        split at h
        · rename_i i hi
          split at h
          · rename_i hc
            have ih := ih' w hu hv h
            simp [Op.equalIn, run_underlying hd, info_run hi, hc, ih]
          · cases h
        · cases h
    · rename_i fields xs ys hd
      obtain ⟨xs', rfl, hxs⟩ := hx.agg_inv
      obtain ⟨ys', rfl, hys⟩ := hy.agg_inv
      split at h
      · cases h
      · rename_i hst
        have hst' : P.stoodInHeld t = false := by simpa using hst
        have hf : P.fieldsOf t = fields := by simp [Program.fieldsOf, hd]
        rw [run_equalIn_struct w D t xs' ys' (by rw [hf]; exact hd) hst', hf]
        exact xEqFields_ok ih' hxs hys h w
    · rename_i p hd; cases h; obtain rfl := hx.nils_inv; cases hy <;> simp [Op.equalIn, run_underlying hd]
    · rename_i hd; cases h; obtain ⟨im, c', _, _, rfl⟩ := hx.slice_inv; obtain rfl := hy.nils_inv; simp [Op.equalIn, run_underlying hd]
    · rename_i p hd; cases h; cases hx; cases hy <;> simp [Op.equalIn, run_underlying hd]
    · rename_i hd; cases h; cases hx; cases hy; simp [Op.equalIn, run_underlying hd]
    · rename_i hd; cases h; cases hx; cases hy; simp [Op.equalIn, run_underlying hd]
    · rename_i hd; cases h; cases hx; cases hy; simp [Op.equalIn, run_underlying hd]
    · rename_i hd; cases h; cases hx; cases hy; simp [Op.equalIn, run_underlying hd]
    · cases h

def isConstO : Operand → Bool
  | .const _ => true
  | _ => false
def xGuard (P : Program) (op : BinOp) (t : TypeId) (xo yo : Operand) (a b : Value) : Bool :=
  match op, a, b with
  | .eql, .nilIface, .nilIface | .neq, .nilIface, .nilIface => isConstO xo || isConstO yo
  | .eql, .agg _, .agg _ | .neq, .agg _, .agg _ => !(P.eqGuardType P.depth t)
  | _, _, _ => true
theorem xGuard_ok {op : BinOp} {t : TypeId} {xo yo : Operand} {a b a' b' : Value} (ha : VR j a a') (hb : VR j b b') (h : xGuard P op t xo yo a b = true) (w : World) : (eqGuard op t xo yo a' b').run P w = .ok () w := by
  have key : (op = .eql ∨ op = .neq) ∨ (eqGuard op t xo yo a' b').run P w = .ok () w := by cases op <;> first | (left; simp; done) | (right; simp [eqGuard])
  rcases key with key | key
  · unfold eqGuard
    rw [if_neg (by rcases key with rfl | rfl <;> simp)]
    split
    · cases ha; cases hb
      have h1 : isConstO xo = true ∨ isConstO yo = true := by rcases key with rfl | rfl <;> simpa [xGuard] using h
      have h2 : (∃ v, xo = .const v) ∨ ∃ v, yo = .const v := by
        rcases h1 with h | h
        · left; cases xo <;> simp [isConstO] at h; exact ⟨_, rfl⟩
        · right; cases yo <;> simp [isConstO] at h; exact ⟨_, rfl⟩
      rcases h2 with ⟨v, rfl⟩ | ⟨v, rfl⟩
      · simp
      · cases xo <;> simp
    · obtain ⟨cs, rfl⟩ : ∃ cs, a = .agg cs := by cases ha; exact ⟨_, rfl⟩
      obtain ⟨ds, rfl⟩ : ∃ cs, b = .agg cs := by cases hb; exact ⟨_, rfl⟩
      have : P.eqGuardType P.depth t = false := by rcases key with rfl | rfl <;> simpa [xGuard] using h
      simp [this]
    · simp
  · exact key

def kindN : Value → Nat
  | .int _ _ => 1
  | .float _ _ => 2
  | .complex _ _ _ => 3
  | .string _ => 4
  | _ => 0
theorem VR.kindN {v v' : Value} (h : VR j v v') : kindN v' = kindN v := by cases h <;> rfl
theorem binOp_eql_other {t : TypeId} {x y : Value} (h : kindN x = 0 ∨ kindN y ≠ kindN x) :
    binOp .eql t x y = (do pure (.bool (← Op.equal t x y)) : Sem Value) ∧ binOp .neq t x y = (do pure (.bool (!(← Op.equal t x y))) : Sem Value) := by
  cases x <;> cases y <;> first
    | exact ⟨rfl, rfl⟩
    | (exfalso; simp [Ab.kindN] at h; done)
/-- two values that are no pair of numbers or strings -/
def xEqOp (P : Program) (op : BinOp) (t : TypeId) (xo yo : Operand) (x y : Value) : Option Value :=
  if kindN x = 0 && xGuard P op t xo yo x y then (match op with
    | .eql => (xEq P 12 t x y).map .bool
    | .neq => (xEq P 12 t x y).map fun b => .bool !b
    | _ => none) else none
def xBin (P : Program) (op : BinOp) (t : TypeId) (xo yo : Operand) (x y : Value) : Option Value :=
  match x, y with
  | .int k a, .int k' b => (match op with
    | .shl | .shr => xShift op k a b
    | _ => if k = k' then xInt op k a b else none)
  | .string a, .string b => xStr op a b
  | x, y => xEqOp P op t xo yo x y
theorem xEqOp_ok (h : WR j σ w) {op : BinOp} {t : TypeId} {xo yo : Operand} {x y x' y' v : Value} (hx : VR j x x') (hy : VR j y y') (hl : xEqOp P op t xo yo x y = some v) :
    Yields P j σ w (do eqGuard op t xo yo x' y'; binOp op t x' y') v σ := by
  unfold xEqOp at hl
  split at hl
  case isFalse => cases hl
  rename_i hc
  simp only [Bool.and_eq_true, decide_eq_true_eq] at hc
  have hg := xGuard_ok hx hy hc.2 w
  have hk : kindN x' = 0 ∨ kindN y' ≠ kindN x' := .inl (by rw [hx.kindN]; exact hc.1)
  obtain ⟨e1, e2⟩ := binOp_eql_other (t := t) hk
  split at hl
  · simp only [Option.map_eq_some_iff] at hl
    obtain ⟨b, hb, rfl⟩ := hl
    have := xEq_ok 12 Op.maxDepth (by unfold Op.maxDepth; omega) w hx hy hb
    refine Yields.same h (v' := .bool b) ?_ (.bool b)
    simp only [Sem.run_bind, hg, Result.andThen_ok, e1, Op.equal, this, Sem.run_pure]
  · simp only [Option.map_eq_some_iff] at hl
    obtain ⟨b, hb, rfl⟩ := hl
    have := xEq_ok 12 Op.maxDepth (by unfold Op.maxDepth; omega) w hx hy hb
    refine Yields.same h (v' := .bool !b) ?_ (.bool _)
    simp only [Sem.run_bind, hg, Result.andThen_ok, e2, Op.equal, this, Sem.run_pure]
  · cases hl
theorem xBin_ok (h : WR j σ w) {op : BinOp} {t : TypeId} {xo yo : Operand} {x y x' y' v : Value} (hx : VR j x x') (hy : VR j y y') (hl : xBin P op t xo yo x y = some v) :
    Yields P j σ w (do eqGuard op t xo yo x' y'; binOp op t x' y') v σ := by
  unfold xBin at hl
  split at hl
  · rename_i k a k' b
    obtain rfl := hx.int_inv; obtain rfl := hy.int_inv
    have hv : ∀ u, (binOp op t (.int k a) (.int k' b)).run P w = .ok u w → (do eqGuard op t xo yo (.int k a) (.int k' b); binOp op t (.int k a) (.int k' b) : Sem Value).run P w = .ok u w := by
      intro u hu
      rw [Sem.run_bind, xGuard_ok (j := j) (.int k a) (.int k' b) (by cases op <;> rfl) w]
      exact hu
    have hs : xShift op k a b = some v → Yields P j σ w (do eqGuard op t xo yo (.int k a) (.int k' b); binOp op t (.int k a) (.int k' b)) v σ := by
      intro hs
      refine Yields.same h (hv v (xShift_ok hs t w)) ?_
      unfold xShift at hs
      split at hs
      · cases hs
      · split at hs <;> cases hs <;> exact .int _ _
    split at hl
    · exact hs hl
    · exact hs hl
    · split at hl
      · rename_i hk
        subst hk
        refine Yields.same h (hv v (xInt_ok hl t w)) ?_
        cases op <;> simp only [xInt] at hl <;> (try split at hl) <;> cases hl <;> constructor
      · cases hl
  · rename_i a b
    obtain rfl := hx.string_inv; obtain rfl := hy.string_inv
    refine Yields.same h (v' := v) ?_ ?_
    · rw [Sem.run_bind, xGuard_ok (j := j) (.string a) (.string b) (by cases op <;> rfl) w]
      exact xStr_ok hl t w
    · cases op <;> simp only [xStr] at hl <;> (try split at hl) <;> cases hl <;> constructor
  · exact xEqOp_ok h hx hy hl

def xUn (op : UnOp) (x : Value) : Option Value :=
  match op, x with
  | .not, .bool b => some (.bool !b)
  | .neg, .int k n => some (.int k (k.wrap (0 - n)))
  | .xor, .int k n => xInt .xor k (if k.signed then -1 else k.max) n
  | _, _ => none
theorem xUn_ok (h : WR j σ w) {op : UnOp} {x x' v : Value} (hx : VR j x x') (hl : xUn op x = some v) : Yields P j σ w (Op.unary op x') v σ := by
  unfold xUn at hl
  split at hl
  · cases hl; obtain rfl := hx.bool_inv; exact Yields.same h (by simp [Op.unary]) (.bool _)
  · cases hl; obtain rfl := hx.int_inv; exact Yields.same h (by simp [Op.unary, Op.intArith]) (.int _ _)
  · obtain rfl := hx.int_inv
    simp only [xInt] at hl
    cases hl
    exact Yields.same h (by simp [Op.unary, Op.intBits]) (.int _ _)
  · cases hl
end
end Go.Ab
