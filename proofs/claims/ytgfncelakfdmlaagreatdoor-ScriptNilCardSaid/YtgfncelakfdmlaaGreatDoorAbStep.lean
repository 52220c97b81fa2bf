import Derived.Test.YtgfncelakfdmlaaGreatDoorAbExec11
/-! One operation. -/
namespace Go.Ab
open Go

/-- what one operation comes to -/
inductive AN where
  | val (v : Value) (σ : Mem)
  | skip (σ : Mem)
  | enter (f : FuncId) (args : List Value) (σ : Mem)
  | dfr (f : FuncId) (args captured : List Value) (σ : Mem)
  | panic (v : Value) (σ : Mem)
  | recover (σ : Mem)

def aev (a : Tm) (σ : Mem) : Operand → Option Value
  | .tmp t => some (a.get t)
  | .const v => if plain v then some v else none
  | .global g => if g < σ.G then some (.pointer (some ⟨g, 0, none⟩)) else none
  | .func f => some (.func (.func f) #[] #[])
def aevs (a : Tm) (σ : Mem) : List Operand → Option (List Value)
  | [] => some []
  | x :: xs => match aev a σ x, aevs a σ xs with
    | some v, some l => some (v :: l)
    | _, _ => none
def aevo (a : Tm) (σ : Mem) : Option Operand → Option (Option Value)
  | none => some none
  | some x => (aev a σ x).map some
def aevp (a : Tm) (σ : Mem) : List (Nat × Operand) → Option (List (Nat × Value))
  | [] => some []
  | (i, x) :: xs => match aev a σ x, aevp a σ xs with
    | some v, some l => some ((i, v) :: l)
    | _, _ => none

/-- functions without a Go body that are answered -/
abbrev AExt := FuncId → List Value → Mem → Option (Value × Mem)
/-- the function that is called may be entered -/
def hasBody (P : Program) (f : FuncId) : Bool := match P.funcs[f]? with
  | some fn => fn.body.isSome
  | none => false
def fitsM (d : TypeDesc) (pr : Bool) : Bool := match d with
  | .pointer _ => pr
  | _ => !pr
def xMethod (P : Program) (t : TypeId) (v : Value) (name : String) : Option (FuncId × Value) :=
  match P.info? t with
  | none => none
  | some i => match i.methods.find? (·.name == name) with
    | none => none
    | some m => match m.func, P.underlying t with
      | some (f, pr), some d => if m.path.isEmpty && fitsM d pr then some (f, v) else none
      | _, _ => none

def xBuiltin (P : Program) (σ : Mem) (b : Builtin) (ts : List TypeId) (args : List Value) : Option AN :=
  match b, ts, args with
  | .append, [t0, t1], [s, x] => (xAppend P σ t0 t1 s x).map fun r => .val r.1 r.2
  | .len, [t], [x] => (xLen P σ t x).map fun v => .val v σ
  | .unsafeSliceData, _, [x] => (xSliceData x).map fun v => .val v σ
  | .unsafeString, [t, _], [x, y] => (xUnsafeStr P σ t x y).map fun r => .val r.1 r.2
  | .cap, [t], [x] => (xCap P t x).map fun v => .val v σ
  | .copy, [t, _], [d, s] => (xCopy P σ t d s).map fun r => .val r.1 r.2
  | .max, _, args => (xMinMax true args).map fun v => .val v σ
  | .min, _, args => (xMinMax false args).map fun v => .val v σ
  | .panic, _, [.iface t v] => some (.panic (.iface t v) σ)
  | .recover, _, [] => some (.recover σ)
  | _, _, _ => none

def aexec (P : Program) (X : AExt) (a : Tm) (σ : Mem) (o : Oper) : Option AN :=
  match o.op with
  | .move x | .assign x => (aev a σ x).map fun v => .val v σ
  | .pick c x y => (match aev a σ c, aev a σ x, aev a σ y with
    | some (.bool b), some vx, some vy => some (.val (if b then vx else vy) σ)
    | _, _, _ => none)
  | .alloc t => (xAlloc P σ t).map fun r => .val r.1 r.2
  | .box t x => (aev a σ x).map fun v => let r := xNew σ t v.cells.toList; .val r.1 r.2
  | .build t ps => (aevp a σ ps.toList).bind fun l => (xBuild P t l).map fun v => .val v σ
  | .buildSlice t n ps => (aevp a σ ps.toList).bind fun l => (xBuildSlice P σ t n l).map fun r => .val r.1 r.2
  | .load t x => (aev a σ x).bind fun p => (xLoad P σ t p).map fun v => .val v σ
  | .store t x y => (match aev a σ x, aev a σ y with
    | some p, some v => (xStore P σ t p v).map fun σ' => .skip σ'
    | _, _ => none)
  | .nilCheck x => (match aev a σ x with
    | some (.pointer (some p)) => some (.val (.pointer (some p)) σ)
    | some (.func (.func f) x y) => some (.val (.func (.func f) x y) σ)
    | some (.iface t v) => some (.val (.iface t v) σ)
    | _ => none)
  | .binOp op t x y _ => (match aev a σ x, aev a σ y with
    | some u, some v => (xBin P op t x y u v).map fun r => .val r σ
    | _, _ => none)
  | .unOp op _ x => (aev a σ x).bind fun v => (xUn op v).map fun r => .val r σ
  | .convert s d x => (aev a σ x).bind fun v => match xConvert P σ s d v with
    | some r => some (.val r.1 r.2)
    | none => (xUnsafe P σ s d v).map fun r => .val r σ
  | .makeInterface t x => (aev a σ x).bind fun v => (xMakeIface P t v).map fun r => .val r σ
  | .makeFunc fn f c => (match aevs a σ f.toList, aevs a σ c.toList with
    | some l, some m => some (.val (.func fn l.toArray m.toArray) σ)
    | _, _ => none)
  | .makeSlice t l c => (match aev a σ l, aev a σ c with
    | some u, some v => (xMakeSlice P σ t u v).map fun r => .val r.1 r.2
    | _, _ => none)
  | .slice t x lo hi mx => (match aev a σ x, aevo a σ lo, aevo a σ hi, aevo a σ mx with
    | some v, some l, some h, some m => (xSlice P t v l h m).map fun r => .val r σ
    | _, _, _, _ => none)
  | .fieldAddr s x f => (aev a σ x).bind fun v => (xField P s v f).map fun r => .val r σ
  | .field t x f => (aev a σ x).bind fun v => (xFieldV P t v f).map fun r => .val r σ
  | .indexAddr t x i => (match aev a σ x, aev a σ i with
    | some u, some v => (xIndexAt P t u v).map fun r => .val r σ
    | _, _ => none)
  | .index t x i => (match aev a σ x, aev a σ i with
    | some u, some v => (xIndex P t u v).map fun r => .val r σ
    | _, _ => none)
  | .typeAssert x _ t ok => (aev a σ x).bind fun v => (xAssert P v t ok).map fun r => .val r σ
  | .extract x i => (aev a σ x).bind fun v => (xExtract v i).map fun r => .val r σ
  | .makeMap t r => (aevo a σ r).bind fun u => (xMakeMap P σ t u).map fun r => .val r.1 r.2
  | .lookup t x i ok => (match aev a σ x, aev a σ i with
    | some u, some v => (xLookup P σ t u v ok).map fun r => .val r σ
    | _, _ => none)
  | .mapUpdate t m k v => (match aev a σ m, aev a σ k, aev a σ v with
    | some u, some x, some y => (xMapUpdate P σ t u x y).map fun σ' => .skip σ'
    | _, _, _ => none)
  | .panic x => (match aev a σ x with
    | some (.iface t v) => some (.panic (.iface t v) σ)
    | _ => none)
  | .call c => (match aevs a σ c.args.toList with
    | none => none
    | some args => match c.callee with
      | .builtin b => xBuiltin P σ b c.argTypes.toList args
      | .value f => (match aev a σ f with
        | some (.func (.func k) first cap) => if hasBody P k then some (.enter k (first.toList ++ args ++ cap.toList) σ)
          else (X k (first.toList ++ args ++ cap.toList) σ).map fun r => .val r.1 r.2
        | _ => none)
      | .invoke r name => (match aev a σ r with
        | some (.iface t v) => (match xMethod P t v name with
          | some (f, u) => if hasBody P f then some (.enter f (u :: args) σ) else none
          | none => none)
        | _ => none))
  | .defer c => (match aevs a σ c.args.toList, c.callee with
    | some args, .value f => (match aev a σ f with
      | some (.func (.func k) first cap) => some (.dfr k (first.toList ++ args) cap.toList σ)
      | _ => none)
    | _, _ => none)
  | _ => none

/-- the temporaries -/
structure TmR (j : J) (a : Tm) (c : Array Value) : Prop where
  sz : c.size = a.sz
  get : ∀ t, VR j (a.get t) (c.getD t undef)
theorem TmR.mono {j j' : J} (hj : Le j j') {a : Tm} {c : Array Value} (h : TmR j a c) : TmR j' a c := ⟨h.sz, fun t => (h.get t).mono hj⟩

/-- the abstract outcome, and the model's -/
inductive NR (j : J) (σ : Mem) (w : World) : AN → Result Next → Prop
  | val (v : Value) (σ' : Mem) (v' : Value) (w' : World) (j' : J) (h1 : WR j' σ' w') (h2 : Ext j σ w j' σ' w') (h3 : VR j' v v') : NR j σ w (.val v σ') (.ok (.value v') w')
  | skip (σ' : Mem) (w' : World) (j' : J) (h1 : WR j' σ' w') (h2 : Ext j σ w j' σ' w') : NR j σ w (.skip σ') (.ok .skip w')
  | enter (f : FuncId) (args : List Value) (args' : Array Value) (h3 : VRs j args args'.toList) : NR j σ w (.enter f args σ) (.ok (.enter f args') w)
  | dfr (f : FuncId) (args cap : List Value) (args' cap' : Array Value) (h3 : VRs j args args'.toList) (h4 : VRs j cap cap'.toList) : NR j σ w (.dfr f args cap σ) (.ok (.defer { target := .fn (.func f) cap', args := args' }) w)
  | panic (v v' : Value) (h3 : VR j v v') : NR j σ w (.panic v σ) (.halt (.panic v') w)
  | recover : NR j σ w (.recover σ) (.ok .recover w)

/-- no function has the one name that the model answers itself -/
def ExtOK (P : Program) (X : AExt) : Prop := ∀ k args σ r, X k args σ = some r → ∀ (j : J) (w : World) (args' : Array Value), WR j σ w → VRs j args args'.toList → NR j σ w (.val r.1 r.2) ((callFunc k args').run P w)
def NoNG (P : Program) (X : AExt) : Prop := (∀ (f : Nat) (fn : Func), P.funcs[f]? = some fn → (fn.name == "runtime.NumGoroutine") = false) ∧ ExtOK P X

section
variable {P : Program} {X : AExt} {j : J} {σ : Mem} {w : World} {a : Tm} {c : Act}

theorem VR.func_inv {fn : Fn} {f cap : Array Value} {v' : Value} (h : VR j (.func fn f cap) v') : ∃ f' cap', v' = .func fn f' cap' ∧ VRs j f.toList f'.toList ∧ VRs j cap.toList cap'.toList := by
  cases h with | func _ _ f' _ c' h1 h2 => exact ⟨f', c', rfl, h1, h2⟩
theorem aev_ok (h : WR j σ w) (ha : TmR j a c.tmps) {x : Operand} {v : Value} (hl : aev a σ x = some v) : VR j v (c.eval x) := by
  cases x with
  | tmp t => simp only [aev] at hl; cases hl; exact ha.get t
  | const u =>
    simp only [aev] at hl
    split at hl
    · cases hl; rename_i hp; exact VR.of_plain hp
    · cases hl
  | global g =>
    simp only [aev] at hl
    split at hl
    · cases hl
      rename_i hg
      obtain ⟨im, h1, h2⟩ := h.glob g hg
      have := VR.ptr (j := j) ⟨g, 0, none⟩ im h1
      rw [h2] at this
      exact this
    · cases hl
  | func f => simp only [aev] at hl; cases hl; exact .func _ _ _ _ _ .nil .nil
theorem aevs_ok (h : WR j σ w) (ha : TmR j a c.tmps) : ∀ {xs : List Operand} {l : List Value}, aevs a σ xs = some l → VRs j l (xs.map c.eval)
  | [], l, hl => by simp only [aevs] at hl; cases hl; exact .nil
  | x :: xs, l, hl => by
    simp only [aevs] at hl
    split at hl
    · rename_i v l' h1 h2
      cases hl
      exact .cons _ _ _ _ (aev_ok h ha h1) (aevs_ok h ha h2)
    · cases hl
theorem aevp_ok (h : WR j σ w) (ha : TmR j a c.tmps) : ∀ {xs : List (Nat × Operand)} {l : List (Nat × Value)}, aevp a σ xs = some l → PRs j l (xs.map fun p => (p.1, c.eval p.2))
  | [], l, hl => by simp only [aevp] at hl; cases hl; exact .nil
  | (i, x) :: xs, l, hl => by
    simp only [aevp] at hl
    split at hl
    · rename_i v l' h1 h2
      cases hl
      exact .cons _ _ _ _ _ (aev_ok h ha h1) (aevp_ok h ha h2)
    · cases hl
theorem aevo_ok (h : WR j σ w) (ha : TmR j a c.tmps) {x : Option Operand} {o : Option Value} (hl : aevo a σ x = some o) : OR j o (x.map c.eval) := by
  cases x with
  | none => simp only [aevo] at hl; cases hl; exact .none
  | some x =>
    simp only [aevo, Option.map_eq_some_iff] at hl
    obtain ⟨v, hv, rfl⟩ := hl
    exact .some _ _ (aev_ok h ha hv)

theorem Yields.nr {m : Sem Value} {v : Value} {σ' : Mem} (h : Yields P j σ w m v σ') : NR j σ w (.val v σ') ((do pure (.value (← m)) : Sem Next).run P w) := by
  obtain ⟨j', w', v', h1, h2, h3, h4⟩ := h
  simp only [Sem.run_bind, h1, Result.andThen_ok, Sem.run_pure]
  exact .val _ _ _ _ j' h2 h3 h4

theorem callFunc_run (hng : NoNG P X) {f : FuncId} (hb : hasBody P f = true) (args : Array Value) (w : World) : (callFunc f args).run P w = .ok (.enter f args) w := by
  unfold hasBody at hb
  split at hb
  · rename_i fn hf
    have h1 := hng.1 f fn hf
    have h2 : fn.body.isNone = false := by cases h : fn.body <;> simp_all
    simp only [callFunc, Sem.run_bind, run_program, Result.andThen_ok, hf, h1, h2, Bool.false_eq_true, if_false, Sem.run_pure]
  · cases hb

theorem receiver_run {t : TypeId} {d : TypeDesc} (hd : P.underlying t = some d) {pr : Bool} (hf : fitsM d pr = true) (u : Value) (wr : Option String) (w : World) : (receiverAt t (.val u) pr wr).run P w = .ok u w := by
  cases d <;> cases pr <;> first | (simp [fitsM] at hf; done) | simp [receiverAt, run_underlying hd, Place.get]
theorem xMethod_ok {v u : Value} {t : TypeId} {name : String} {f : FuncId} {r : Value} (hl : xMethod P t v name = some (f, r)) (n : Nat) (w : World) :
    r = v ∧ (method (n + 1) t u name).run P w = .ok (f, u) w := by
  unfold xMethod at hl
  split at hl
  · cases hl
  · rename_i i hi
    split at hl
    · cases hl
    · rename_i m hm
      split at hl
      · rename_i f' pr d hf hd
        split at hl
        · rename_i hc
          simp only [Bool.and_eq_true] at hc
          cases hl
          refine ⟨rfl, ?_⟩
          have hp : m.path.toList = [] := by simpa using hc.1
          simp only [method, Sem.run_bind, info_run hi, Result.andThen_ok, hm, hp, follow, Sem.run_pure, hf, receiver_run hd hc.2]
        · cases hl
      · cases hl

theorem xBuiltin_ok (h : WR j σ w) {b : Builtin} {ts : Array TypeId} {ty : TypeId} {cs : Array Bool} {args : List Value} {args' : Array Value} (hv : VRs j args args'.toList) {n : AN}
    (hl : xBuiltin P σ b ts.toList args = some n) : NR j σ w n ((builtin b ts ty cs args').run P w) := by
  obtain ⟨args'⟩ := args'
  obtain ⟨ts⟩ := ts
  unfold xBuiltin at hl
  simp only at hv hl
  split at hl
  · rename_i t0 t1 s x
    simp only [Option.map_eq_some_iff] at hl
    obtain ⟨r, h1, rfl⟩ := hl
    cases hv with | cons _ s' _ _ hs t => cases t with | cons _ x' _ _ hx t => cases t; exact (xAppend_ok h hs hx h1).nr
  · rename_i t x
    simp only [Option.map_eq_some_iff] at hl
    obtain ⟨r, h1, rfl⟩ := hl
    cases hv with | cons _ x' _ _ hx t => cases t; exact (xLen_ok h hx h1).nr
  · rename_i x
    simp only [Option.map_eq_some_iff] at hl
    obtain ⟨r, h1, rfl⟩ := hl
    cases hv with | cons _ x' _ _ hx t => cases t; exact (xSliceData_ok h hx h1).nr
  · rename_i t t1 x y
    simp only [Option.map_eq_some_iff] at hl
    obtain ⟨r, h1, rfl⟩ := hl
    cases hv with | cons _ x' _ _ hx t => cases t with | cons _ y' _ _ hy t => cases t; exact (xUnsafeStr_ok h hx hy h1).nr
  · rename_i t x
    simp only [Option.map_eq_some_iff] at hl
    obtain ⟨r, h1, rfl⟩ := hl
    cases hv with | cons _ x' _ _ hx t => cases t; exact (xCap_ok h hx h1).nr
  · rename_i t t1 d s
    simp only [Option.map_eq_some_iff] at hl
    obtain ⟨r, h1, rfl⟩ := hl
    cases hv with | cons _ d' _ _ hd t => cases t with | cons _ s' _ _ hs t => cases t; exact (xCopy_ok h hd hs h1).nr
  · simp only [Option.map_eq_some_iff] at hl
    obtain ⟨r, h1, rfl⟩ := hl
    exact (xMinMax_ok h hv h1 (at_ := ts.toArray) (ty := ty)).nr
  · simp only [Option.map_eq_some_iff] at hl
    obtain ⟨r, h1, rfl⟩ := hl
    exact (xMinMax_ok h hv h1 (at_ := ts.toArray) (ty := ty)).nr
  · cases hl
    cases hv with
    | cons _ x' _ _ hx t =>
      cases t
      obtain ⟨u, rfl, hu⟩ := hx.iface_inv
      show NR j σ w _ ((do pure (.value (← Instr.panic (Value.iface _ u))) : Sem Next).run P w)
      simp only [Sem.run_bind, Instr.panic, run_goPanic, Result.andThen_halt]
      exact .panic _ _ (.iface _ _ _ hu)
  · cases hl
    cases hv
    exact .recover
  · cases hl

theorem aexec_ok (hng : NoNG P X) (h : WR j σ w) (ha : TmR j a c.tmps) {o : Oper} {n : AN} (hl : aexec P X a σ o = some n) : NR j σ w n ((execOp c.eval o).run P w) := by
  unfold aexec at hl
  unfold execOp
  split at hl
  · rename_i x ho
    simp only [Option.map_eq_some_iff] at hl
    obtain ⟨v, hv, rfl⟩ := hl
    simp only [ho, Sem.run_pure]
    exact .val _ _ _ _ j h (Ext.refl _ _ _) (aev_ok h ha hv)
  · rename_i x ho
    simp only [Option.map_eq_some_iff] at hl
    obtain ⟨v, hv, rfl⟩ := hl
    simp only [ho, Sem.run_pure]
    exact .val _ _ _ _ j h (Ext.refl _ _ _) (aev_ok h ha hv)
  · rename_i cc x y ho
    split at hl
    · rename_i b vx vy hb hx hy
      cases hl
      have e := (aev_ok h ha hb).bool_inv
      simp only [ho, Sem.run_bind, e, asBool, Sem.run_pure, Result.andThen_ok]
      refine .val _ _ _ _ j h (Ext.refl _ _ _) ?_
      cases b
      · exact aev_ok h ha hy
      · exact aev_ok h ha hx
    · cases hl
  · rename_i t ho
    simp only [Option.map_eq_some_iff] at hl
    obtain ⟨r, hr, rfl⟩ := hl
    simp only [ho]
    exact (xAlloc_ok h hr).nr
  · rename_i t x ho
    simp only [Option.map_eq_some_iff] at hl
    obtain ⟨v, hv, rfl⟩ := hl
    simp only [ho]
    exact (xBox_ok h (aev_ok h ha hv)).nr
  · rename_i t ps ho
    simp only [Option.bind_eq_some_iff, Option.map_eq_some_iff] at hl
    obtain ⟨l, hp, v, hv, rfl⟩ := hl
    simp only [ho]
    exact (xBuild_ok h (by simpa using aevp_ok h ha hp) hv).nr
  · rename_i t m ps ho
    simp only [Option.bind_eq_some_iff, Option.map_eq_some_iff] at hl
    obtain ⟨l, hp, r, hr, rfl⟩ := hl
    simp only [ho]
    exact (xBuildSlice_ok h (by simpa using aevp_ok h ha hp) hr).nr
  · rename_i t x ho
    simp only [Option.bind_eq_some_iff, Option.map_eq_some_iff] at hl
    obtain ⟨p, hp, v, hv, rfl⟩ := hl
    simp only [ho]
    exact (xLoad_ok h (aev_ok h ha hp) hv).nr
  · rename_i t x y ho
    split at hl
    · rename_i p v hp hv
      simp only [Option.map_eq_some_iff] at hl
      obtain ⟨σ', hs, rfl⟩ := hl
      obtain ⟨w', r1, r2, r3⟩ := xStore_ok h (aev_ok h ha hp) (aev_ok h ha hv) hs
      simp only [ho, Sem.run_bind, r1, Result.andThen_ok, Sem.run_pure]
      exact .skip _ _ j r2 r3
    · cases hl
  · rename_i x ho
    split at hl
    · rename_i p hp
      cases hl
      have hv := aev_ok h ha hp
      obtain ⟨im, hj, e⟩ := hv.ptr_inv
      simp only [ho, e, Sem.run_pure]
      rw [← e]
      exact .val _ _ _ _ j h (Ext.refl _ _ _) hv
    · rename_i f xx yy hp
      cases hl
      have hv := aev_ok h ha hp
      obtain ⟨f', c', e, h1, h2⟩ := hv.func_inv
      simp only [ho, e, Sem.run_pure]
      exact .val _ _ _ _ j h (Ext.refl _ _ _) (.func _ _ _ _ _ h1 h2)
    · rename_i t v hp
      cases hl
      have hv := aev_ok h ha hp
      obtain ⟨u, e, hu⟩ := hv.iface_inv
      simp only [ho, e, Sem.run_pure]
      exact .val _ _ _ _ j h (Ext.refl _ _ _) (.iface _ _ _ hu)
    · cases hl
  · rename_i op t x y yt ho
    split at hl
    · rename_i u v hu hv
      simp only [Option.map_eq_some_iff] at hl
      obtain ⟨r, hr, rfl⟩ := hl
      simp only [ho]
      exact (xBin_ok h (aev_ok h ha hu) (aev_ok h ha hv) hr).nr
    · cases hl
  · rename_i op t x ho
    simp only [Option.bind_eq_some_iff, Option.map_eq_some_iff] at hl
    obtain ⟨v, hv, r, hr, rfl⟩ := hl
    simp only [ho]
    exact (xUn_ok h (aev_ok h ha hv) hr).nr
  · rename_i s d x ho
    simp only [Option.bind_eq_some_iff] at hl
    obtain ⟨v, hv, hl⟩ := hl
    simp only [ho]
    split at hl
    · rename_i r hr
      cases hl
      exact (xConvert_ok h (aev_ok h ha hv) hr).nr
    · simp only [Option.map_eq_some_iff] at hl
      obtain ⟨r, hr, rfl⟩ := hl
      exact (xUnsafe_ok h (aev_ok h ha hv) hr).nr
  · rename_i t x ho
    simp only [Option.bind_eq_some_iff, Option.map_eq_some_iff] at hl
    obtain ⟨v, hv, r, hr, rfl⟩ := hl
    simp only [ho]
    exact (xMakeIface_ok h (aev_ok h ha hv) hr).nr
  · rename_i fn f cc ho
    split at hl
    · rename_i l m h1 h2
      cases hl
      simp only [ho, Instr.makeFunc, pure_bind, Sem.run_pure]
      exact .val _ _ _ _ j h (Ext.refl _ _ _) (.func _ _ _ _ _ (by simpa using aevs_ok h ha h1) (by simpa using aevs_ok h ha h2))
    · cases hl
  · rename_i t l cc ho
    split at hl
    · rename_i u v hu hv
      simp only [Option.map_eq_some_iff] at hl
      obtain ⟨r, hr, rfl⟩ := hl
      simp only [ho]
      exact (xMakeSlice_ok h (aev_ok h ha hu) (aev_ok h ha hv) hr).nr
    · cases hl
  · rename_i t x lo hi mx ho
    split at hl
    · rename_i v l hh m h1 h2 h3 h4
      simp only [Option.map_eq_some_iff] at hl
      obtain ⟨r, hr, rfl⟩ := hl
      simp only [ho]
      exact (xSlice_ok h (aev_ok h ha h1) (aevo_ok h ha h2) (aevo_ok h ha h3) (aevo_ok h ha h4) hr).nr
    · cases hl
  · rename_i s x f ho
    simp only [Option.bind_eq_some_iff, Option.map_eq_some_iff] at hl
    obtain ⟨v, hv, r, hr, rfl⟩ := hl
    simp only [ho]
    exact (xField_ok h (aev_ok h ha hv) hr).nr
  · rename_i s x f ho
    simp only [Option.bind_eq_some_iff, Option.map_eq_some_iff] at hl
    obtain ⟨v, hv, r, hr, rfl⟩ := hl
    simp only [ho]
    exact (xFieldV_ok h (aev_ok h ha hv) hr).nr
  · rename_i t x i ho
    split at hl
    · rename_i u v hu hv
      simp only [Option.map_eq_some_iff] at hl
      obtain ⟨r, hr, rfl⟩ := hl
      simp only [ho]
      exact (xIndexAt_ok h (aev_ok h ha hu) (aev_ok h ha hv) hr).nr
    · cases hl
  · rename_i t x i ho
    split at hl
    · rename_i u v hu hv
      simp only [Option.map_eq_some_iff] at hl
      obtain ⟨r, hr, rfl⟩ := hl
      simp only [ho]
      exact (xIndex_ok h (aev_ok h ha hu) (aev_ok h ha hv) hr).nr
    · cases hl
  · rename_i x xt t ok ho
    simp only [Option.bind_eq_some_iff, Option.map_eq_some_iff] at hl
    obtain ⟨v, hv, r, hr, rfl⟩ := hl
    simp only [ho]
    exact (xAssert_ok h (aev_ok h ha hv) hr).nr
  · rename_i x i ho
    simp only [Option.bind_eq_some_iff, Option.map_eq_some_iff] at hl
    obtain ⟨v, hv, r, hr, rfl⟩ := hl
    simp only [ho]
    exact (xExtract_ok h (aev_ok h ha hv) hr).nr
  · rename_i t r ho
    simp only [Option.bind_eq_some_iff, Option.map_eq_some_iff] at hl
    obtain ⟨v, hv, r, hr, rfl⟩ := hl
    simp only [ho]
    exact (xMakeMap_ok h (aevo_ok h ha hv) hr).nr
  · rename_i t x i ok ho
    split at hl
    · rename_i u v hu hv
      simp only [Option.map_eq_some_iff] at hl
      obtain ⟨r, hr, rfl⟩ := hl
      simp only [ho]
      exact (xLookup_ok h (aev_ok h ha hu) (aev_ok h ha hv) hr).nr
    · cases hl
  · rename_i t m k v ho
    split at hl
    · rename_i u x y hu hx hy
      simp only [Option.map_eq_some_iff] at hl
      obtain ⟨σ', hs, rfl⟩ := hl
      obtain ⟨w', r1, r2, r3⟩ := xMapUpdate_ok h (aev_ok h ha hu) (aev_ok h ha hx) (aev_ok h ha hy) hs
      simp only [ho, Sem.run_bind, r1, Result.andThen_ok, Sem.run_pure]
      exact .skip _ _ j r2 r3
    · cases hl
  · rename_i x ho
    split at hl
    · rename_i t v hp
      cases hl
      have hv := aev_ok h ha hp
      obtain ⟨u, e, hu⟩ := hv.iface_inv
      simp only [ho, e, Instr.panic, Sem.run_bind, run_goPanic, Result.andThen_halt]
      exact .panic _ _ (.iface _ _ _ hu)
    · cases hl
  · rename_i cl ho
    split at hl
    · cases hl
    · rename_i args hargs
      have hvs := aevs_ok h ha hargs
      split at hl
      · rename_i b hb
        simp only [ho, resolve, hb, pure_bind, invoke]
        exact xBuiltin_ok h (by simpa using hvs) hl
      · rename_i f hf
        split at hl
        · rename_i k first cap hk
          split at hl
          · rename_i hbody
            cases hl
            have hv := aev_ok h ha hk
            obtain ⟨first', cap', e, h1, h2⟩ := hv.func_inv
            simp only [ho, resolve, hf, e, Deferred.ofValue, pure_bind, invoke]
            rw [callFunc_run hng hbody]
            refine .enter _ _ _ ?_
            simp only [Array.toList_append, Array.toList_map]
            exact (h1.append hvs).append h2
          · simp only [Option.map_eq_some_iff] at hl
            obtain ⟨r, hr, rfl⟩ := hl
            have hv := aev_ok h ha hk
            obtain ⟨first', cap', e, h1, h2⟩ := hv.func_inv
            simp only [ho, resolve, hf, e, Deferred.ofValue, pure_bind, invoke]
            refine hng.2 _ _ _ _ hr j w _ h ?_
            simp only [Array.toList_append, Array.toList_map]
            exact (h1.append hvs).append h2
        · cases hl
      · rename_i r name hr
        split at hl
        · rename_i t v hrv
          split at hl
          · rename_i f u hm
            split at hl
            · rename_i hbody
              cases hl
              obtain ⟨uu, e, hu⟩ := (aev_ok h ha hrv).iface_inv
              obtain ⟨rfl, hmr⟩ := xMethod_ok (u := uu) hm (P.types.size + Made.depth - 1) w
              have hdep : P.types.size + Made.depth - 1 + 1 = P.types.size + Made.depth := by unfold Made.depth; omega
              rw [hdep] at hmr
              have e0 : (#[Value.iface t uu] ++ cl.args.map c.eval)[0]? = some (.iface t uu) := by
                rw [Array.getElem?_append_left (by simp)]; rfl
              have e1 : #[uu] ++ (#[Value.iface t uu] ++ cl.args.map c.eval).extract 1 (#[Value.iface t uu] ++ cl.args.map c.eval).size = #[uu] ++ cl.args.map c.eval := by
                congr 1
                apply Array.toList_inj.1
                simp only [Array.toList_extract, Array.toList_append, List.extract]
                simp
                exact List.take_of_length_le (by simp)
              simp only [ho, resolve, hr, pure_bind, invoke, e, e0, callMethod, Sem.run_bind, run_program, Result.andThen_ok, hmr, e1]
              rw [callFunc_run hng hbody]
              refine .enter _ _ _ ?_
              simp only [Array.toList_append, Array.toList_map]
              exact .cons _ _ _ _ hu hvs
            · cases hl
          · cases hl
        · cases hl
  · rename_i cl ho
    split at hl
    · rename_i args f hargs hf
      split at hl
      · rename_i k first cap hk
        cases hl
        have hvs := aevs_ok h ha hargs
        have hv := aev_ok h ha hk
        obtain ⟨first', cap', e, h1, h2⟩ := hv.func_inv
        simp only [ho, resolve, hf, e, Deferred.ofValue, pure_bind, Sem.run_pure]
        refine .dfr _ _ _ _ _ ?_ h2
        simp only [Array.toList_append, Array.toList_map]
        exact h1.append hvs
      · cases hl
    · cases hl
  · cases hl
end
end Go.Ab
