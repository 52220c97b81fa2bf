import Derived.Test.YtgfncelakfdmlaaGreatDoorAbCode
/-! Deferred calls, recover, and the run of a function. -/
namespace Go.Ab
open Go

def recM : FrameMode → Option (Value × FrameMode)
  | .panicking ({ v, recovered := false, goexit := false } :: older) => some (v, .panicking ({ v, recovered := true } :: older))
  | _ => none
inductive MoR (j : J) : FrameMode → FrameMode → Prop
  | returning : MoR j .returning .returning
  | panicking (l l' : List PanicEntry) (h : ChR j l l') : MoR j (.panicking l) (.panicking l')
theorem MoR.mono {j j' : J} (hj : Le j j') {u u' : FrameMode} (h : MoR j u u') : MoR j' u u' := by
  cases h with
  | returning => exact .returning
  | panicking l l' h => exact .panicking _ _ (h.mono hj)
theorem recM_ok {j : J} {u u' : FrameMode} (h : MoR j u u') (c₀ : Frame) (cs : List Frame) :
    (recM u = none ∧ recoverD ({ c₀ with mode := u' } :: cs) = none) ∨
    ∃ v v' m m', recM u = some (v, m) ∧ recoverD ({ c₀ with mode := u' } :: cs) = some (v', { c₀ with mode := m' } :: cs) ∧ VR j v v' ∧ MoR j m m' := by
  cases h with
  | returning => exact .inl ⟨rfl, rfl⟩
  | panicking l l' h =>
    cases h with
    | nil => exact .inl ⟨rfl, rfl⟩
    | cons e e' l1 l1' hv hr hg t =>
      obtain ⟨v, r, g⟩ := e
      obtain ⟨v', r', g'⟩ := e'
      simp only at hr hg hv
      subst hr; subst hg
      cases r' <;> cases g' <;> first
        | exact .inl ⟨rfl, rfl⟩
        | exact .inr ⟨v, v', _, _, rfl, rfl, hv, .panicking _ _ (.cons _ _ _ _ hv rfl rfl t)⟩
theorem ChR.dropWhile {j : J} : ∀ {l l' : List PanicEntry}, ChR j l l' → ChR j (l.dropWhile (!·.goexit)) (l'.dropWhile (!·.goexit))
  | _, _, .nil => .nil
  | _, _, .cons e e' l l' h hr hg t => by
    simp only [List.dropWhile_cons, hg]
    split
    · exact ChR.dropWhile t
    · exact .cons _ _ _ _ h hr hg t
theorem ChR.append {j : J} : ∀ {a a' b b' : List PanicEntry}, ChR j a a' → ChR j b b' → ChR j (a ++ b) (a' ++ b')
  | _, _, _, _, .nil, h => h
  | _, _, _, _, .cons e e' l l' h hr hg t, k => .cons _ _ _ _ h hr hg (ChR.append t k)
theorem MoR.settle {j : J} {u u' : FrameMode} (h : MoR j u u') : MoR j (settle u) (settle u') := by
  cases h with
  | returning => exact .returning
  | panicking l l' h =>
    cases h with
    | nil => exact .panicking _ _ .nil
    | cons e e' l1 l1' hv hr hg t =>
      obtain ⟨v, r, g⟩ := e
      obtain ⟨v', r', g'⟩ := e'
      simp only at hr hg hv
      subst hr; subst hg
      cases r' with
      | false => exact .panicking _ _ (.cons _ _ _ _ hv rfl rfl t)
      | true =>
        have hd := t.dropWhile
        simp only [Go.settle]
        revert hd
        generalize l1.dropWhile (!·.goexit) = d
        generalize l1'.dropWhile (!·.goexit) = d'
        intro hd
        cases hd with
        | nil => exact .returning
        | cons e e' l2 l2' h2 hr2 hg2 t2 => exact .panicking _ _ (.cons _ _ _ _ h2 hr2 hg2 t2)
theorem MoR.raised {j : J} {u u' : FrameMode} (h : MoR j u u') {ch ch' : List PanicEntry} (hc : ChR j ch ch') : MoR j (raised u ch) (raised u' ch') := by
  cases h with
  | returning => exact .panicking _ _ hc
  | panicking l l' h => exact .panicking _ _ (hc.append h)

/-- the operations of a deferred call: recover asks the mode below -/
def aopsS (P : Program) (X : AExt) (call : ACall) (ops : Array Oper) : List Oper → FrameMode → AS → Option (AExit × FrameMode × AS)
  | [], u, s => some (.normal, u, s)
  | o :: rest, u, s =>
    if awanted ops o s.tm then
      match aexec P X s.tm s.σ o with
      | some (.val v σ') => aopsS P X call ops rest u { s with tm := aput s.tm o.dst v, σ := σ' }
      | some (.skip σ') => aopsS P X call ops rest u { s with tm := aput s.tm o.dst undef, σ := σ' }
      | some (.enter f args σ') => (match call f args σ' with
        | some (.ret v, σ'') => aopsS P X call ops rest u { s with tm := aput s.tm o.dst v, σ := σ'' }
        | some (.panic ch, σ'') => some (.panic ch, u, { s with σ := σ'' })
        | none => none)
      | some (.panic v σ') => some (.panic [{ v, recovered := false }], u, { s with σ := σ' })
      | some (.recover σ') => (match recM u with
        | some (v, u') => aopsS P X call ops rest u' { s with tm := aput s.tm o.dst v, σ := σ' }
        | none => aopsS P X call ops rest u { s with tm := aput s.tm o.dst .nilIface, σ := σ' })
      | _ => none
    else aopsS P X call ops rest u { s with tm := aput s.tm o.dst undef }
def acodeS (P : Program) (X : AExt) (call : ACall) (lf : Nat) : Code → FrameMode → AS → Option (AExit × FrameMode × AS)
  | .seq a b, u, s => match acodeS P X call lf a u s with
    | some (.normal, u', s') => acodeS P X call lf b u' s'
    | r => r
  | .region _ ops false, u, s => aopsS P X call ops ops.toList u s
  | .cond c x y, u, s => match aev s.tm s.σ c with
    | some (.bool true) => acodeS P X call lf x u s
    | some (.bool false) => acodeS P X call lf y u s
    | _ => none
  | c, u, s => (acode P X call lf c s).map fun r => (r.1, u, r.2)

section
variable {P : Program} {X : AExt} {call : ACall} {lf : Nat} {ops : Array Oper}

def AfterS (c₀ : Frame) (cs : List Frame) (j : J) (σ : Mem) (w : World) (e : AExit) (u : FrameMode) (s' : AS) (Q : Exit → Act → List Frame → World → Prop) : Prop :=
  ∀ e' c' m' w' j', ExR j' e e' → MoR j' u m' → SR j' s' c' w' → Ext j σ w j' s'.σ w' → Q e' c' ({ c₀ with mode := m' } :: cs) w'
theorem AfterS.step {c₀ : Frame} {cs : List Frame} {Q : Exit → Act → List Frame → World → Prop} {j j1 : J} {σ σ1 : Mem} {w w1 : World} {e : AExit} {u : FrameMode} {s' : AS} (h : AfterS c₀ cs j σ w e u s' Q) (hx : Ext j σ w j1 σ1 w1) : AfterS c₀ cs j1 σ1 w1 e u s' Q :=
  fun e' c' m' w' j' h1 h2 h3 h4 => h e' c' m' w' j' h1 h2 h3 (hx.trans h4)

theorem aopsS_ok (hng : NoNG P X) (hcall : CallOK P call) {c₀ : Frame} {cs : List Frame} {Q : Exit → Act → List Frame → World → Prop} : ∀ (l : List Oper) (idx : List Nat), idx.map (ops[·]?) = l.map some →
    ∀ {s s' : AS} {u u1 m : FrameMode} {e : AExit} {j : J} {c : Act} {w : World}, aopsS P X call ops l u s = some (e, u1, s') → SR j s c w → MoR j u m →
    AfterS c₀ cs j s.σ w e u1 s' Q → wpOpsS P ops Q idx c ({ c₀ with mode := m } :: cs) w
  | [], idx, hi, s, s', u, u1, m, e, j, c, w, hl, hs, hm, hq => by
    have : idx = [] := by simpa using hi
    subst this
    simp only [aopsS] at hl; cases hl
    exact hq _ _ _ _ j .normal hm hs (Ext.refl _ _ _)
  | o :: rest, idx, hi, s, s', u, u1, m, e, j, c, w, hl, hs, hm, hq => by
    cases idx with
    | nil => simp at hi
    | cons i idx =>
      simp only [List.map_cons, List.cons.injEq] at hi
      obtain ⟨ho, hi⟩ := hi
      simp only [aopsS] at hl
      simp only [wpOpsS, ho]
      rw [wanted_ok hs.tm ops o]
      split at hl
      · rename_i hw
        rw [if_pos hw]
        have hop : ∀ n, aexec P X s.tm s.σ o = some n → NR j s.σ w n ((execOp c.eval o).run P w) := fun n hn => aexec_ok hng hs.wr hs.tm hn
        split at hl
        · rename_i v σ' hn
          have hr := hop _ hn
          generalize (execOp c.eval o).run P w = r at hr ⊢
          cases hr with
          | val _ _ v' w' j' h1 h2 h3 =>
            exact aopsS_ok hng hcall rest idx hi hl ⟨(hs.tm.mono h2.mono).put o.dst h3, by rw [Act.put_def]; exact hs.df.mono h2.mono, h1⟩ (hm.mono h2.mono) (hq.step h2)
        · rename_i σ' hn
          have hr := hop _ hn
          generalize (execOp c.eval o).run P w = r at hr ⊢
          cases hr with
          | skip _ w' j' h1 h2 =>
            exact aopsS_ok hng hcall rest idx hi hl ⟨(hs.tm.mono h2.mono).put o.dst VR.undef, by rw [Act.put_def]; exact hs.df.mono h2.mono, h1⟩ (hm.mono h2.mono) (hq.step h2)
        · rename_i f args σ' hn
          have hr := hop _ hn
          generalize (execOp c.eval o).run P w = r at hr ⊢
          cases hr with
          | enter _ _ args' h3 =>
            simp only [Oper.upon]
            split at hl
            · rename_i v σ'' hc
              refine (hcall _ _ _ _ _ hc j w args' hs.wr h3).mono fun e' w' he => ?_
              obtain ⟨j', h1, h2, h4⟩ := he
              cases h1 with
              | ret _ v' hv =>
                exact aopsS_ok hng hcall rest idx hi hl ⟨(hs.tm.mono h4.mono).put o.dst hv, by rw [Act.put_def]; exact hs.df.mono h4.mono, h2⟩ (hm.mono h4.mono) (hq.step h4)
            · rename_i ch σ'' hc
              cases hl
              refine (hcall _ _ _ _ _ hc j w args' hs.wr h3).mono fun e' w' he => ?_
              obtain ⟨j', h1, h2, h4⟩ := he
              cases h1 with
              | panic _ l' hch => exact hq _ _ _ _ j' (.panic _ _ hch) (hm.mono h4.mono) ⟨hs.tm.mono h4.mono, hs.df.mono h4.mono, h2⟩ h4
            · cases hl
        · rename_i v σ' hn
          have hr := hop _ hn
          generalize (execOp c.eval o).run P w = r at hr ⊢
          cases hr with
          | panic _ v' h3 =>
            cases hl
            exact hq _ _ _ _ j (.panic _ _ (.cons _ _ _ _ h3 rfl rfl .nil)) hm hs (Ext.refl _ _ _)
        · rename_i σ' hn
          have hr := hop _ hn
          generalize (execOp c.eval o).run P w = r at hr ⊢
          cases hr with
          | recover =>
            rcases recM_ok hm c₀ cs with ⟨h1, h2⟩ | ⟨v, v', m1, m1', h1, h2, h3, h4⟩
            · rw [h1] at hl
              simp only at hl
              simp only [h2]
              exact aopsS_ok hng hcall rest idx hi hl ⟨hs.tm.put o.dst .nilIface, by rw [Act.put_def]; exact hs.df, hs.wr⟩ hm hq
            · rw [h1] at hl
              simp only at hl
              simp only [h2]
              exact aopsS_ok hng hcall rest idx hi hl ⟨hs.tm.put o.dst h3, by rw [Act.put_def]; exact hs.df, hs.wr⟩ h4 hq
        · cases hl
      · rename_i hw
        rw [if_neg hw]
        exact aopsS_ok hng hcall rest idx hi hl ⟨hs.tm.put o.dst VR.undef, by rw [Act.put_def]; exact hs.df, hs.wr⟩ hm hq

theorem acodeS_ok (hng : NoNG P X) (hcall : CallOK P call) (hmx : P.follows .mixedOrders = true) {c₀ : Frame} {cs : List Frame} : ∀ (c : Code), codeOK P c = true → ∀ {s s' : AS} {u u1 m : FrameMode} {e : AExit} {j : J} {a : Act} {w : World}
    {Q : Exit → Act → List Frame → World → Prop}, acodeS P X call lf c u s = some (e, u1, s') → SR j s a w → MoR j u m → AfterS c₀ cs j s.σ w e u1 s' Q → c.wpS P Q a ({ c₀ with mode := m } :: cs) w := by
  have other : ∀ (c : Code), codeOK P c = true → ∀ {s s' : AS} {u u1 m : FrameMode} {e : AExit} {j : J} {a : Act} {w : World}
      {Q : Exit → Act → List Frame → World → Prop}, (acode P X call lf c s).map (fun r => (r.1, u, r.2)) = some (e, u1, s') → SR j s a w → MoR j u m → AfterS c₀ cs j s.σ w e u1 s' Q → c.wpS P Q a ({ c₀ with mode := m } :: cs) w := by
    intro c hc s s' u u1 m e j a w Q hl hs hm hq
    simp only [Option.map_eq_some_iff] at hl
    obtain ⟨r, h1, h2⟩ := hl
    simp only [Prod.mk.injEq] at h2
    obtain ⟨rfl, rfl, rfl⟩ := h2
    refine wpS_of_wp (acode_ok hng hcall hmx c hc h1 hs ?_)
    intro e' c' w' j' he hs' hx
    exact hq e' c' m w' j' he (hm.mono hx.mono) hs' hx
  intro c
  induction c with
  | seq x y ihx ihy =>
    intro hc s s' u u1 m e j a w Q hl hs hm hq
    simp only [acodeS] at hl
    simp only [codeOK, Bool.and_eq_true] at hc
    refine wpS_seq ?_
    split at hl
    · rename_i u2 s1 h1
      refine ihx hc.1 h1 hs hm ?_
      intro e' c' m' w' j' he hm' hs' hx
      cases he
      exact ihy hc.2 hl hs' hm' (hq.step hx)
    · rename_i hn
      refine ihx hc.1 hl hs hm ?_
      intro e' c' m' w' j' he hm' hs' hx
      have hne : e ≠ .normal := by rintro rfl; exact hn _ _ hl
      have hq' := hq e' c' m' w' j' he hm' hs' hx
      have := he.ne hne
      cases e' <;> first | exact hq' | exact absurd rfl this
  | region id ops d =>
    intro hc s s' u u1 m e j a w Q hl hs hm hq
    cases d with
    | false =>
      simp only [acodeS] at hl
      exact wpS_region (aopsS_ok hng hcall ops.toList (List.range ops.size) (range_get ops) hl hs hm hq)
    | true => exact other _ hc hl hs hm hq
  | cond c x y ihx ihy =>
    intro hc s s' u u1 m e j a w Q hl hs hm hq
    simp only [acodeS] at hl
    simp only [codeOK, Bool.and_eq_true] at hc
    split at hl
    · rename_i hb
      exact wpS_cond (t := true) (aev_ok hs.wr hs.tm hb).bool_inv (ihx hc.1 hl hs hm hq)
    · rename_i hb
      exact wpS_cond (t := false) (aev_ok hs.wr hs.tm hb).bool_inv (ihy hc.2 hl hs hm hq)
    · cases hl
  | _ =>
    intro hc s s' u u1 m e j a w Q hl hs hm hq
    exact other _ hc hl hs hm hq
end

theorem DfR.nil_inv {j : J} {l : List Deferred} (h : DfR j [] l) : l = [] := by cases h; rfl
theorem MoR.ne_run {j : J} {u m : FrameMode} (h : MoR j u m) : m ≠ .run := by cases h <;> exact fun e => by cases e
/-- the body of a function that may be entered -/
def bodyOf (P : Program) (M : Nat) (f : FuncId) : Option (Func × Code) :=
  if M.testBit f then match P.funcs[f]? with
    | none => none
    | some fn => fn.body.map fun c => (fn, c)
  else none
/-- the functions of the set pass the static checks -/
def Good (P : Program) (M : Nat) : Prop := ∀ (f : Nat) (fn : Func) (c : Code), M.testBit f = true → P.funcs[f]? = some fn → fn.body = some c → codeOK P c = true
theorem bodyOf_spec {P : Program} {M : Nat} (hg : Good P M) {f : FuncId} {fn : Func} {c : Code} (h : bodyOf P M f = some (fn, c)) : P.funcs[f]? = some fn ∧ fn.body = some c ∧ codeOK P c = true := by
  unfold bodyOf at h
  split at h
  · rename_i hb
    split at h
    · cases h
    · rename_i fn' hf
      simp only [Option.map_eq_some_iff, Prod.mk.injEq] at h
      obtain ⟨c', h1, rfl, rfl⟩ := h
      exact ⟨hf, h1, hg f _ _ hb hf h1⟩
  · cases h

def adef (P : Program) (X : AExt) (M lf : Nat) (call : ACall) (f : FuncId) (args : List Value) (u : FrameMode) (σ : Mem) : Option (AEnd × FrameMode × Mem) :=
  match bodyOf P M f with
  | none => none
  | some (fn, c) =>
    if args.length ≤ fn.ntmps then
      match acodeS P X call lf c u ⟨Tm.ofList fn.ntmps args, [], σ⟩ with
      | some (.normal, u', ⟨tm, [], σ'⟩) | some (.ret, u', ⟨tm, [], σ'⟩) => (aresults P ⟨tm, [], σ'⟩ fn.results.toList).map fun l => (.ret (tupled l), u', σ')
      | some (.panic ch, u', ⟨_, [], σ'⟩) => some (.panic ch, u', σ')
      | _ => none
    else none
def aleave (P : Program) (X : AExt) (M lf : Nat) (call : ACall) (fn : Func) (tm : Tm) : List ADef → FrameMode → Mem → Option (AEnd × Mem)
  | [], .returning, σ => (aresults P ⟨tm, [], σ⟩ fn.results.toList).map fun l => (.ret (tupled l), σ)
  | [], .panicking ch, σ => some (.panic ch, σ)
  | [], .run, _ => none
  | d :: ds, u, σ => match adef P X M lf call d.f (d.args ++ d.cap) u σ with
    | some (.ret _, u', σ') => aleave P X M lf call fn tm ds (settle u') σ'
    | some (.panic ch, u', σ') => aleave P X M lf call fn tm ds (raised u' ch) σ'
    | none => none
def afun (P : Program) (X : AExt) (M lf : Nat) (call : ACall) : ACall := fun f args σ =>
  match bodyOf P M f with
  | none => none
  | some (fn, c) =>
    if args.length ≤ fn.ntmps then
      match acode P X call lf c ⟨Tm.ofList fn.ntmps args, [], σ⟩ with
      | some (.normal, s) | some (.ret, s) => aleave P X M lf call fn s.tm s.df .returning s.σ
      | some (.panic ch, s) => aleave P X M lf call fn s.tm s.df (.panicking ch) s.σ
      | _ => none
    else none
/-- 'ext': contracts that are proved elsewhere; they come first -/
def arun (P : Program) (X : AExt) (M lf : Nat) (ext : ACall) : Nat → ACall
  | 0 => fun _ _ _ => none
  | n + 1 => fun f args σ => match ext f args σ with
    | some r => some r
    | none => afun P X M lf (arun P X M lf ext n) f args σ

section
variable {P : Program} {X : AExt} {M lf : Nat} {call : ACall}
theorem adef_ok (hng : NoNG P X) (hg : Good P M) (hm : P.follows .mixedOrders = true) (hcall : CallOK P call) {f : FuncId} {args : List Value} {u u1 m : FrameMode} {σ σ' : Mem} {r : AEnd} {j : J} {w : World} {args' : Array Value}
    (hl : adef P X M lf call f args u σ = some (r, u1, σ')) (hw : WR j σ w) (hv : VRs j args args'.toList) (hmo : MoR j u m) :
    CallsD P f args' m w fun e m' w' => ∃ j', EndR j' r e ∧ MoR j' u1 m' ∧ WR j' σ' w' ∧ Ext j σ w j' σ' w' := by
  unfold adef at hl
  split at hl
  · cases hl
  · rename_i fn c hb
    obtain ⟨hf, hbody, hok⟩ := bodyOf_spec hg hb
    split at hl
    · rename_i hn
      refine callsD_of_wpS hf hbody fun c₀ cs hc₀ => ?_
      have hstart := enter_ok hw hv hn
      have hcs : c₀ :: cs = { c₀ with mode := m } :: cs := by subst hc₀; rfl
      rw [hcs]
      split at hl
      · rename_i u' tm σ1 hrun
        simp only [Option.map_eq_some_iff, Prod.mk.injEq] at hl
        obtain ⟨l, hr, rfl, rfl, rfl⟩ := hl
        refine acodeS_ok hng hcall hm c hok hrun hstart hmo ?_
        intro e' c' m' w' j' he hm' hs' hx
        cases he
        obtain ⟨v', g1, g2⟩ := results_ok hs' hr
        have hd : c'.defers = [] := hs'.df.nil_inv
        exact ⟨hd, m', rfl, v', g1, j', .ret _ _ g2, hm', hs'.wr, hx⟩
      · rename_i u' tm σ1 hrun
        simp only [Option.map_eq_some_iff, Prod.mk.injEq] at hl
        obtain ⟨l, hr, rfl, rfl, rfl⟩ := hl
        refine acodeS_ok hng hcall hm c hok hrun hstart hmo ?_
        intro e' c' m' w' j' he hm' hs' hx
        cases he
        obtain ⟨v', g1, g2⟩ := results_ok hs' hr
        have hd : c'.defers = [] := hs'.df.nil_inv
        exact ⟨hd, m', rfl, v', g1, j', .ret _ _ g2, hm', hs'.wr, hx⟩
      · rename_i ch u' tm σ1 hrun
        cases hl
        refine acodeS_ok hng hcall hm c hok hrun hstart hmo ?_
        intro e' c' m' w' j' he hm' hs' hx
        cases he with
        | panic _ l' hch =>
          have hd : c'.defers = [] := hs'.df.nil_inv
          exact ⟨hd, m', rfl, j', .panic _ _ hch, hm', hs'.wr, hx⟩
      · cases hl
    · cases hl

theorem aleave_ok (hng : NoNG P X) (hg : Good P M) (hm : P.follows .mixedOrders = true) (hcall : CallOK P call) {fn : Func} {tm : Tm} {R : Ending → World → Prop} : ∀ {ds : List ADef} {u m : FrameMode} {σ σ' : Mem} {r : AEnd} {j : J} {w : World} {c : Array Value} {ds' : List Deferred},
    aleave P X M lf call fn tm ds u σ = some (r, σ') → TmR j tm c → DfR j ds ds' → WR j σ w → MoR j u m →
    (∀ e w' j', EndR j' r e → WR j' σ' w' → Ext j σ w j' σ' w' → R e w') → Leaves P fn c R ds' m w
  | [], u, m, σ, σ', r, j, w, c, ds', hl, htm, hdf, hw, hmo, hR => by
    cases hdf
    cases hmo with
    | returning =>
      simp only [aleave, Option.map_eq_some_iff, Prod.mk.injEq] at hl
      obtain ⟨l, hr, rfl, rfl⟩ := hl
      obtain ⟨v', g1, g2⟩ := results_ok (fn := fn) (s := ⟨tm, [], σ⟩) (c := { tmps := c, defers := [] }) ⟨htm, .nil, hw⟩ hr
      exact ⟨v', g1, hR _ _ j (.ret _ _ g2) hw (Ext.refl _ _ _)⟩
    | panicking l l' h =>
      simp only [aleave] at hl
      cases hl
      exact hR _ _ j (.panic _ _ h) hw (Ext.refl _ _ _)
  | d :: ds, u, m, σ, σ', r, j, w, c, ds', hl, htm, hdf, hw, hmo, hR => by
    cases hdf with
    | cons _ args' cap' _ ds1 hargs hcap ht =>
      simp only [aleave] at hl
      have key : ∀ {r1 u1 σ1}, adef P X M lf call d.f (d.args ++ d.cap) u σ = some (r1, u1, σ1) →
          (invoke (.fn (.func d.f) cap') args').run P w = .ok (.enter d.f (args' ++ cap')) w ∧
          CallsD P d.f (args' ++ cap') m w fun e m' w' => ∃ j', EndR j' r1 e ∧ MoR j' u1 m' ∧ WR j' σ1 w' ∧ Ext j σ w j' σ1 w' := by
        intro r1 u1 σ1 h
        refine ⟨?_, adef_ok hng hg hm hcall h hw (by simpa using hargs.append hcap) hmo⟩
        simp only [invoke]
        refine callFunc_run hng ?_ _ w
        unfold adef at h
        split at h
        · cases h
        · rename_i fn' c' hb
          obtain ⟨hf, hbody, _⟩ := bodyOf_spec hg hb
          simp [hasBody, hf, hbody]
      split at hl
      · rename_i v u1 σ1 hd
        obtain ⟨k1, k2⟩ := key hd
        refine ⟨hmo.ne_run, _, _, _, _, rfl, k1, k2.mono fun e m' w' he => ?_⟩
        obtain ⟨j', h1, h2, h3, h4⟩ := he
        cases h1 with
        | ret _ v' hv =>
          exact aleave_ok hng hg hm hcall hl (htm.mono h4.mono) (ht.mono h4.mono) h3 h2.settle fun e w' j2 a1 a2 a3 => hR e w' j2 a1 a2 (h4.trans a3)
      · rename_i ch u1 σ1 hd
        obtain ⟨k1, k2⟩ := key hd
        refine ⟨hmo.ne_run, _, _, _, _, rfl, k1, k2.mono fun e m' w' he => ?_⟩
        obtain ⟨j', h1, h2, h3, h4⟩ := he
        cases h1 with
        | panic _ l' hch =>
          exact aleave_ok hng hg hm hcall hl (htm.mono h4.mono) (ht.mono h4.mono) h3 (h2.raised hch) fun e w' j2 a1 a2 a3 => hR e w' j2 a1 a2 (h4.trans a3)
      · cases hl

theorem afun_ok (hng : NoNG P X) (hg : Good P M) (hm : P.follows .mixedOrders = true) (hcall : CallOK P call) : CallOK P (afun P X M lf call) := by
  intro f args σ r σ' hl j w args' hw hv
  unfold afun at hl
  split at hl
  · cases hl
  · rename_i fn c hb
    obtain ⟨hf, hbody, hok⟩ := bodyOf_spec hg hb
    split at hl
    · rename_i hn
      have hstart := enter_ok hw hv hn
      refine calls_of_wp_defers hf hbody ?_
      split at hl
      · rename_i s hrun
        refine acode_ok hng hcall hm c hok hrun hstart ?_
        intro e' c' w' j' he hs' hx
        cases he
        exact aleave_ok hng hg hm hcall hl hs'.tm hs'.df hs'.wr .returning fun e w2 j2 a1 a2 a3 => ⟨j2, a1, a2, hx.trans a3⟩
      · rename_i s hrun
        refine acode_ok hng hcall hm c hok hrun hstart ?_
        intro e' c' w' j' he hs' hx
        cases he
        exact aleave_ok hng hg hm hcall hl hs'.tm hs'.df hs'.wr .returning fun e w2 j2 a1 a2 a3 => ⟨j2, a1, a2, hx.trans a3⟩
      · rename_i ch s hrun
        refine acode_ok hng hcall hm c hok hrun hstart ?_
        intro e' c' w' j' he hs' hx
        cases he with
        | panic _ l' hch =>
          exact aleave_ok hng hg hm hcall hl hs'.tm hs'.df hs'.wr (.panicking _ _ hch) fun e w2 j2 a1 a2 a3 => ⟨j2, a1, a2, hx.trans a3⟩
      · cases hl
    · cases hl

/-- ████ the run of the abstract machine is what the model does ████ -/
theorem arun_ok (hng : NoNG P X) (hg : Good P M) (hm : P.follows .mixedOrders = true) {ext : ACall} (hext : CallOK P ext) : ∀ n, CallOK P (arun P X M lf ext n)
  | 0 => fun f args σ r σ' hl => by cases hl
  | n + 1 => by
    intro f args σ r σ' hl
    simp only [arun] at hl
    split at hl
    · rename_i x hx
      cases hl
      exact hext f args σ r σ' hx
    · exact afun_ok hng hg hm (arun_ok hng hg hm hext n) f args σ r σ' hl
end
end Go.Ab
