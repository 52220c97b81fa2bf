import Derived.Test.YtgfncelakfdmlaaGreatDoorAbStep
import Derived.Orders
/-! Regions: the text's order, and any order. -/
namespace Go.Ab
open Go

structure ADef where
  f : FuncId
  args : List Value
  cap : List Value
inductive AEnd where
  | ret (v : Value)
  | panic (chain : List PanicEntry)
inductive AExit where
  | normal
  | exit (id : Nat)
  | ret
  | panic (chain : List PanicEntry)
abbrev ACall := FuncId → List Value → Mem → Option (AEnd × Mem)
structure AS where
  tm : Tm
  df : List ADef
  σ : Mem

def aput (a : Tm) (dst : Option Tmp) (v : Value) : Tm := match dst with
  | some d => a.set d v
  | none => a
theorem sz_aput (a : Tm) (dst : Option Tmp) (v : Value) : (aput a dst v).sz = a.sz := by cases dst <;> simp [aput]
theorem get_aput (a : Tm) (dst : Option Tmp) (v : Value) (t : Nat) : (aput a dst v).get t = if dst = some t ∧ t < a.sz then v else a.get t := by
  cases dst with
  | none => simp [aput]
  | some d =>
    simp only [aput, Tm.get_set]
    by_cases h : d = t
    · subst h; simp
    · simp [h]
def ayield (ops : Array Oper) (a : Tm) (k : Nat) : Option Bool :=
  match (ops[k]?).bind (·.dst) with
  | none => none
  | some d => if d < a.sz then (match a.get d with
    | .bool b => some b
    | _ => none) else none

inductive ChR (j : J) : List PanicEntry → List PanicEntry → Prop
  | nil : ChR j [] []
  | cons (e e' : PanicEntry) (l l' : List PanicEntry) (h : VR j e.v e'.v) (hr : e'.recovered = e.recovered) (hg : e'.goexit = e.goexit) (t : ChR j l l') : ChR j (e :: l) (e' :: l')
theorem ChR.mono {j j' : J} (hj : Le j j') : ∀ {l l' : List PanicEntry}, ChR j l l' → ChR j' l l'
  | _, _, .nil => .nil
  | _, _, .cons e e' l l' h hr hg t => .cons e e' l l' (h.mono hj) hr hg (ChR.mono hj t)
inductive ExR (j : J) : AExit → Exit → Prop
  | normal : ExR j .normal .normal
  | exit (id : Nat) : ExR j (.exit id) (.exit id)
  | ret : ExR j .ret .ret
  | panic (l l' : List PanicEntry) (h : ChR j l l') : ExR j (.panic l) (.panic l')
inductive EndR (j : J) : AEnd → Ending → Prop
  | ret (v v' : Value) (h : VR j v v') : EndR j (.ret v) (.returned v')
  | panic (l l' : List PanicEntry) (h : ChR j l l') : EndR j (.panic l) (.panicked l')
inductive DfR (j : J) : List ADef → List Deferred → Prop
  | nil : DfR j [] []
  | cons (d : ADef) (args' cap' : Array Value) (l : List ADef) (l' : List Deferred) (h : VRs j d.args args'.toList) (hc : VRs j d.cap cap'.toList) (t : DfR j l l') :
      DfR j (d :: l) ({ target := .fn (.func d.f) cap', args := args' } :: l')
theorem DfR.mono {j j' : J} (hj : Le j j') : ∀ {l : List ADef} {l' : List Deferred}, DfR j l l' → DfR j' l l'
  | _, _, .nil => .nil
  | _, _, .cons d a c l l' h hc t => .cons d a c l l' (h.mono hj) (hc.mono hj) (DfR.mono hj t)

/-- the call's contract, for whatever the abstract run says -/
def CallOK (P : Program) (call : ACall) : Prop := ∀ f args σ r σ', call f args σ = some (r, σ') → ∀ (j : J) (w : World) (args' : Array Value), WR j σ w → VRs j args args'.toList →
  Calls P f args' w fun e w' => ∃ j', EndR j' r e ∧ WR j' σ' w' ∧ Ext j σ w j' σ' w'

structure SR (j : J) (s : AS) (c : Act) (w : World) : Prop where
  tm : TmR j s.tm c.tmps
  df : DfR j s.df c.defers
  wr : WR j s.σ w

theorem TmR.put {j : J} {a : Tm} {c : Act} (h : TmR j a c.tmps) (dst : Option Tmp) {v v' : Value} (hv : VR j v v') : TmR j (aput a dst v) (c.put dst v').tmps := by
  cases dst with
  | none => exact h
  | some d =>
    refine ⟨by simp [aput, Act.put, h.sz], fun t => ?_⟩
    rw [get_aput]
    simp only [Act.put]
    by_cases hd : d = t ∧ t < a.sz
    · obtain ⟨rfl, hlt⟩ := hd
      have : (c.tmps.setIfInBounds d v').getD d undef = v' := by
        simp [Array.getD, h.sz, hlt]
      rw [this]; simp [hlt, hv]
    · have : (c.tmps.setIfInBounds d v').getD t undef = c.tmps.getD t undef := by
        by_cases e : d = t
        · subst e
          have hge : ¬ d < c.tmps.size := by rw [h.sz]; simpa using hd
          simp [Array.getD, hge]
        · simp only [Array.getD_eq_getD_getElem?]
          rw [Array.getElem?_setIfInBounds_ne e]
      rw [this]
      have hn : ¬ (some d = some t ∧ t < a.sz) := by simpa using hd
      rw [if_neg hn]; exact h.get t
theorem Act.put_def (c : Act) (dst : Option Tmp) (v : Value) : (c.put dst v).defers = c.defers := by cases dst <;> rfl

theorem VR.bool_iff {j : J} {v v' : Value} (h : VR j v v') (b : Bool) : v = .bool b ↔ v' = .bool b := by
  constructor
  · intro e; subst e; exact h.bool_inv
  · intro e; subst e; cases h; rfl
theorem yield_ok {j : J} {a : Tm} {c : Act} (h : TmR j a c.tmps) (ops : Array Oper) (k : Nat) : yielded ops c.tmps k = ayield ops a k := by
  unfold yielded ayield
  cases hd : (ops[k]?).bind (·.dst) with
  | none => simp
  | some d =>
    simp only [Option.bind_some]
    by_cases hlt : d < a.sz
    · simp only [hlt, if_true]
      have hg := h.get d
      have hs : d < c.tmps.size := by rw [h.sz]; exact hlt
      have e : c.tmps[d]? = some (c.tmps.getD d undef) := by simp [Array.getD, hs]
      rw [e]
      generalize c.tmps.getD d undef = u at hg
      generalize a.get d = v at hg
      cases hg <;> rfl
    · have hs : ¬ d < c.tmps.size := by rw [h.sz]; exact hlt
      simp [hlt, hs]

def awanted (ops : Array Oper) (o : Oper) (a : Tm) : Bool := Region.wanted o (ayield ops a)
theorem wanted_ok {j : J} {a : Tm} {c : Act} (h : TmR j a c.tmps) (ops : Array Oper) (o : Oper) : Region.wanted o (yielded ops c.tmps) = awanted ops o a := by
  unfold awanted; congr 1; funext k; exact yield_ok h ops k

/-- the operations in the text's order -/
def aops (P : Program) (X : AExt) (call : ACall) (ops : Array Oper) : List Oper → AS → Option (AExit × AS)
  | [], s => some (.normal, s)
  | o :: rest, s =>
    if awanted ops o s.tm then
      match aexec P X s.tm s.σ o with
      | some (.val v σ') => aops P X call ops rest { s with tm := aput s.tm o.dst v, σ := σ' }
      | some (.skip σ') => aops P X call ops rest { s with tm := aput s.tm o.dst undef, σ := σ' }
      | some (.enter f args σ') => (match call f args σ' with
        | some (.ret v, σ'') => aops P X call ops rest { s with tm := aput s.tm o.dst v, σ := σ'' }
        | some (.panic ch, σ'') => some (.panic ch, { s with σ := σ'' })
        | none => none)
      | some (.dfr f args cap σ') => aops P X call ops rest { s with tm := aput s.tm o.dst undef, df := ⟨f, args, cap⟩ :: s.df, σ := σ' }
      | some (.panic v σ') => some (.panic [{ v, recovered := false }], { s with σ := σ' })
      | _ => none
    else aops P X call ops rest { s with tm := aput s.tm o.dst undef }

section
variable {P : Program} {X : AExt} {call : ACall} {ops : Array Oper} {Q : Exit → Act → World → Prop}

/-- what a statement about the rest must say -/
def After (j : J) (σ : Mem) (w : World) (e : AExit) (s' : AS) (Q : Exit → Act → World → Prop) : Prop :=
  ∀ e' c' w' j', ExR j' e e' → SR j' s' c' w' → Ext j σ w j' s'.σ w' → Q e' c' w'
theorem After.step {j j1 : J} {σ σ1 : Mem} {w w1 : World} {e : AExit} {s' : AS} (h : After j σ w e s' Q) (hx : Ext j σ w j1 σ1 w1) : After j1 σ1 w1 e s' Q :=
  fun e' c' w' j' h1 h2 h3 => h e' c' w' j' h1 h2 (hx.trans h3)

theorem aops_ok (hng : NoNG P X) (hcall : CallOK P call) : ∀ (l : List Oper) (idx : List Nat), idx.map (ops[·]?) = l.map some → ∀ {s s' : AS} {e : AExit} {j : J} {c : Act} {w : World}, aops P X call ops l s = some (e, s') → SR j s c w →
    After j s.σ w e s' Q → wpOps P ops Q idx c w
  | [], idx, hi, s, s', e, j, c, w, hl, hs, hq => by
    have : idx = [] := by simpa using hi
    subst this
    simp only [aops] at hl; cases hl
    exact hq _ _ _ j .normal hs (Ext.refl _ _ _)
  | o :: rest, idx, hi, s, s', e, j, c, w, hl, hs, hq => by
    cases idx with
    | nil => simp at hi
    | cons i idx =>
      simp only [List.map_cons, List.cons.injEq] at hi
      obtain ⟨ho, hi⟩ := hi
      simp only [aops] at hl
      simp only [wpOps, ho]
      rw [wanted_ok hs.tm ops o]
      split at hl
      · rename_i hw
        rw [if_pos hw]
        left
        unfold Oper.wp
        have hop : ∀ n, aexec P X s.tm s.σ o = some n → NR j s.σ w n ((execOp c.eval o).run P w) := fun n hn => aexec_ok hng hs.wr hs.tm hn
        split at hl
        · rename_i v σ' hn
          have hr := hop _ hn
          generalize (execOp c.eval o).run P w = r at hr ⊢
          cases hr with
          | val _ _ v' w' j' h1 h2 h3 =>
            exact aops_ok hng hcall rest idx hi hl ⟨(hs.tm.mono h2.mono).put o.dst h3, by rw [Act.put_def]; exact hs.df.mono h2.mono, h1⟩ (hq.step h2)
        · rename_i σ' hn
          have hr := hop _ hn
          generalize (execOp c.eval o).run P w = r at hr ⊢
          cases hr with
          | skip _ w' j' h1 h2 =>
            exact aops_ok hng hcall rest idx hi hl ⟨(hs.tm.mono h2.mono).put o.dst VR.undef, by rw [Act.put_def]; exact hs.df.mono h2.mono, h1⟩ (hq.step h2)
        · rename_i f args σ' hn
          have hr := hop _ hn
          generalize (execOp c.eval o).run P w = r at hr ⊢
          cases hr with
          | enter _ _ args' h3 =>
            simp only [Oper.upon]
            split at hl
            · rename_i v σ'' hc
              refine (hcall _ _ _ _ _ hc j w args' hs.wr h3).mono fun e' w' he => ?_
              obtain ⟨j', h1, h2, h4⟩ := he
              cases h1 with
              | ret _ v' hv =>
                exact aops_ok hng hcall rest idx hi hl ⟨(hs.tm.mono h4.mono).put o.dst hv, by rw [Act.put_def]; exact hs.df.mono h4.mono, h2⟩ (hq.step h4)
            · rename_i ch σ'' hc
              cases hl
              refine (hcall _ _ _ _ _ hc j w args' hs.wr h3).mono fun e' w' he => ?_
              obtain ⟨j', h1, h2, h4⟩ := he
              cases h1 with
              | panic _ l' hch => exact hq _ _ _ j' (.panic _ _ hch) ⟨hs.tm.mono h4.mono, hs.df.mono h4.mono, h2⟩ h4
            · cases hl
        · rename_i f args cap σ' hn
          have hr := hop _ hn
          generalize (execOp c.eval o).run P w = r at hr ⊢
          cases hr with
          | dfr _ _ _ args' cap' h3 h4 =>
            refine aops_ok hng hcall rest idx hi hl ⟨hs.tm.put (c := { c with defers := _ :: c.defers }) o.dst VR.undef, ?_, hs.wr⟩ hq
            rw [Act.put_def]
            exact .cons ⟨f, args, cap⟩ args' cap' _ _ h3 h4 hs.df
        · rename_i v σ' hn
          have hr := hop _ hn
          generalize (execOp c.eval o).run P w = r at hr ⊢
          cases hr with
          | panic _ v' h3 =>
            cases hl
            exact hq _ _ _ j (.panic _ _ (.cons _ _ _ _ h3 rfl rfl .nil)) hs (Ext.refl _ _ _)
        · cases hl
      · rename_i hw
        rw [if_neg hw]
        exact aops_ok hng hcall rest idx hi hl ⟨hs.tm.put o.dst VR.undef, by rw [Act.put_def]; exact hs.df, hs.wr⟩ hq
end
end Go.Ab
