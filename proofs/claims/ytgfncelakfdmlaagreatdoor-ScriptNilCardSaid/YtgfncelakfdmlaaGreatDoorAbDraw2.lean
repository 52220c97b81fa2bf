import Derived.Test.YtgfncelakfdmlaaGreatDoorAbEq
/-! The abstract run of a region that draws its order, with its checks. -/
namespace Go.Ab
open Go

structure Stage where
  tm : Tm
  σ : Mem
  v : Value
  b : Option Blk
/-- the text's run: the stages; the state behind them; a panic, if one ended it -/
structure TRun where
  st : List Stage
  s : AS
  stop : Option (List PanicEntry × Mem)
def TRun.cons (x : Stage) (r : TRun) : TRun := { r with st := x :: r.st }

def trun (P : Program) (X : AExt) (call : ACall) (ops : Array Oper) : Nat → List Oper → AS → Option TRun
  | _, [], s => some ⟨[], s, none⟩
  | id, o :: rest, s =>
    if awanted ops o s.tm then
      if softOp o.op then
        match asoft P s.tm s.σ id o with
        | some (v, x) => (trun P X call ops (id + 1) rest { s with tm := aput s.tm o.dst v, σ := s.σ.set id x }).map (·.cons ⟨s.tm, s.σ, v, some x⟩)
        | none => none
      else
      match aexec P X s.tm s.σ o with
      | some (.val v σ') => (trun P X call ops (id + 1) rest { s with tm := aput s.tm o.dst v, σ := σ' }).map (·.cons ⟨s.tm, s.σ, v, none⟩)
      | some (.skip σ') => (trun P X call ops (id + 1) rest { s with tm := aput s.tm o.dst undef, σ := σ' }).map (·.cons ⟨s.tm, s.σ, undef, none⟩)
      | some (.enter f args σ') => (match call f args σ' with
        | some (.ret v, σ'') => (trun P X call ops (id + 1) rest { s with tm := aput s.tm o.dst v, σ := σ'' }).map (·.cons ⟨s.tm, s.σ, v, none⟩)
        | some (.panic ch, σ'') => some ⟨[], s, some (ch, σ'')⟩
        | none => none)
      | some (.panic v σ') => some ⟨[], s, some ([{ v, recovered := false }], σ')⟩
      | _ => none
    else (trun P X call ops (id + 1) rest { s with tm := aput s.tm o.dst undef }).map (·.cons ⟨s.tm, s.σ, undef, none⟩)

theorem quiet_same {P : Program} {X : AExt} {a : Tm} {σ : Mem} {o : Oper} (hq : quietOp P o.op = true) {n : AN} (hl : aexec P X a σ o = some n) : ∃ v, n = .val v σ := by
  unfold aexec at hl
  unfold quietOp at hq
  split at hl <;> rename_i ho <;> simp only [ho] at hq <;> (try (cases hq; done))
  case h_3 =>
    split at hl
    · cases hl; exact ⟨_, rfl⟩
    · cases hl
  case h_10 =>
    split at hl <;> cases hl <;> exact ⟨_, rfl⟩
  case h_13 =>
    simp only [Option.bind_eq_some_iff] at hl
    obtain ⟨v, hv, hl⟩ := hl
    split at hq
    · cases hq
    · rename_i hns
      split at hl
      case h_2 =>
        simp only [Option.map_eq_some_iff] at hl
        obtain ⟨r, _, rfl⟩ := hl
        exact ⟨_, rfl⟩
      rename_i r hr
      cases hl
      unfold xConvert at hr
      split at hr
      · cases hr; exact ⟨_, rfl⟩
      · cases hr; exact ⟨_, rfl⟩
      · rename_i hd; exact absurd hd (hns _)
      · split at hr
        · cases hr; exact ⟨_, rfl⟩
        · cases hr
      · split at hr
        · split at hr
          · simp only [Option.map_eq_some_iff] at hr
            obtain ⟨bs, _, rfl⟩ := hr
            exact ⟨_, rfl⟩
          · cases hr
        · cases hr
      · cases hr
  case h_15 =>
    split at hl
    · cases hl; exact ⟨_, rfl⟩
    · cases hl
  case h_28 =>
    split at hl
    · cases hl
    · split at hq
      · rename_i b hb
        rw [hb] at hl
        simp only at hl
        unfold xBuiltin at hl
        split at hl <;> simp only [quietB] at hq <;> first
          | (cases hq; done)
          | (simp only [Option.map_eq_some_iff] at hl; obtain ⟨r, _, rfl⟩ := hl; exact ⟨_, rfl⟩)
          | (cases hl; done)
      · cases hq
  all_goals first
    | (simp only [Option.map_eq_some_iff] at hl; obtain ⟨v, hv, rfl⟩ := hl; exact ⟨_, rfl⟩)
    | (simp only [Option.bind_eq_some_iff, Option.map_eq_some_iff] at hl; obtain ⟨_, _, _, _, rfl⟩ := hl; exact ⟨_, rfl⟩)
    | (split at hl <;> first | (cases hl; done) | (simp only [Option.map_eq_some_iff] at hl; obtain ⟨r, _, rfl⟩ := hl; exact ⟨_, rfl⟩))

def TRun.T (r : TRun) (i : Nat) : Tm := ((r.st[i]?).map (·.tm)).getD r.s.tm
def TRun.S (r : TRun) (i : Nat) : Mem := ((r.st[i]?).map (·.σ)).getD r.s.σ
def TRun.V (r : TRun) (i : Nat) : Value := ((r.st[i]?).map (·.v)).getD undef
def TRun.B (r : TRun) (i : Nat) : Option Blk := (r.st[i]?).bind (·.b)

structure StageOK (P : Program) (X : AExt) (call : ACall) (ops : Array Oper) (o : Oper) (id : Nat) (t t' : Tm) (σ σ' : Mem) (v : Value) (b : Option Blk) : Prop where
  tm : t' = aput t o.dst v
  skip : awanted ops o t = false → v = undef ∧ b = none ∧ σ' = σ
  step : awanted ops o t = true → (softOp o.op = true ∧ ∃ x, b = some x ∧ asoft P t σ id o = some (v, x) ∧ σ' = σ.set id x) ∨ (softOp o.op = false ∧ b = none ∧ (
    aexec P X t σ o = some (.val v σ') ∨ (aexec P X t σ o = some (.skip σ') ∧ v = undef) ∨
    (∃ f args σ1, aexec P X t σ o = some (.enter f args σ1) ∧ call f args σ1 = some (.ret v, σ'))))
structure StopOK (P : Program) (X : AExt) (call : ACall) (ops : Array Oper) (o : Oper) (t : Tm) (σ : Mem) (ch : List PanicEntry) (σ' : Mem) : Prop where
  want : awanted ops o t = true
  step : (∃ v, aexec P X t σ o = some (.panic v σ') ∧ ch = [{ v, recovered := false }]) ∨ (∃ f args σ1, aexec P X t σ o = some (.enter f args σ1) ∧ call f args σ1 = some (.panic ch, σ'))

section
variable {P : Program} {X : AExt} {call : ACall} {ops : Array Oper}
theorem trun_spec : ∀ (l : List Oper) (id : Nat) (s : AS) (r : TRun), trun P X call ops id l s = some r →
    (r.T 0 = s.tm ∧ r.S 0 = s.σ ∧ r.s.df = s.df) ∧ (r.stop = none → r.st.length = l.length) ∧ r.st.length ≤ l.length ∧
    (∀ i o, i < r.st.length → l[i]? = some o → StageOK P X call ops o (id + i) (r.T i) (r.T (i + 1)) (r.S i) (r.S (i + 1)) (r.V i) (r.B i)) ∧
    (∀ ch σ', r.stop = some (ch, σ') → ∃ o, l[r.st.length]? = some o ∧ StopOK P X call ops o r.s.tm r.s.σ ch σ')
  | [], id, s, r, h => by
    simp only [trun] at h; cases h
    exact ⟨⟨rfl, rfl, rfl⟩, fun _ => rfl, Nat.le_refl _, fun i o hi => by simp at hi, fun ch σ' h => by simp at h⟩
  | o :: rest, id, s, r, h => by
    have step : ∀ (v : Value) (σ' : Mem) (b : Option Blk) (r' : TRun), trun P X call ops (id + 1) rest { s with tm := aput s.tm o.dst v, σ := σ' } = some r' →
        StageOK P X call ops o id s.tm (aput s.tm o.dst v) s.σ σ' v b → r = r'.cons ⟨s.tm, s.σ, v, b⟩ →
        (r.T 0 = s.tm ∧ r.S 0 = s.σ ∧ r.s.df = s.df) ∧ (r.stop = none → r.st.length = (o :: rest).length) ∧ r.st.length ≤ (o :: rest).length ∧
        (∀ i o', i < r.st.length → (o :: rest)[i]? = some o' → StageOK P X call ops o' (id + i) (r.T i) (r.T (i + 1)) (r.S i) (r.S (i + 1)) (r.V i) (r.B i)) ∧
        (∀ ch σ', r.stop = some (ch, σ') → ∃ o', (o :: rest)[r.st.length]? = some o' ∧ StopOK P X call ops o' r.s.tm r.s.σ ch σ') := by
      intro v σ' b r' hr hst e
      subst e
      obtain ⟨⟨h1, h2, h2'⟩, h3, h4, h5, h6⟩ := trun_spec rest (id + 1) _ r' hr
      refine ⟨⟨rfl, rfl, h2'⟩, fun hn => by simp only [TRun.cons, List.length_cons]; rw [h3 (by simpa [TRun.cons] using hn)], by simp only [TRun.cons, List.length_cons]; omega, fun i o' hi ho => ?_, fun ch σ'' hs => ?_⟩
      · cases i with
        | zero =>
          simp at ho; subst ho
          have hT : (r'.cons ⟨s.tm, s.σ, v, b⟩).T 1 = r'.T 0 := rfl
          have hS : (r'.cons ⟨s.tm, s.σ, v, b⟩).S 1 = r'.S 0 := rfl
          rw [hT, hS, h1, h2]
          exact hst
        | succ i =>
          have := h5 i o' (by simpa [TRun.cons] using hi) (by simpa using ho)
          rw [show id + (i + 1) = id + 1 + i by omega]
          exact this
      · obtain ⟨o', g1, g2⟩ := h6 ch σ'' hs
        exact ⟨o', by simpa [TRun.cons] using g1, g2⟩
    simp only [trun] at h
    split at h
    · rename_i hw
      split at h
      · rename_i hsoft
        split at h
        · rename_i v x hx
          simp only [Option.map_eq_some_iff] at h
          obtain ⟨r', hr, e⟩ := h
          exact step v _ _ r' hr ⟨rfl, fun hn => (by rw [hw] at hn; cases hn), fun _ => .inl ⟨hsoft, x, rfl, hx, rfl⟩⟩ e.symm
        · cases h
      rename_i hsoft
      have hsoft : softOp o.op = false := by simpa using hsoft
      split at h
      · rename_i v σ' hx
        simp only [Option.map_eq_some_iff] at h
        obtain ⟨r', hr, e⟩ := h
        exact step v σ' _ r' hr ⟨rfl, fun hn => (by rw [hw] at hn; cases hn), fun _ => .inr ⟨hsoft, rfl, .inl hx⟩⟩ e.symm
      · rename_i σ' hx
        simp only [Option.map_eq_some_iff] at h
        obtain ⟨r', hr, e⟩ := h
        exact step undef σ' _ r' hr ⟨rfl, fun hn => (by rw [hw] at hn; cases hn), fun _ => .inr ⟨hsoft, rfl, .inr (.inl ⟨hx, rfl⟩)⟩⟩ e.symm
      · rename_i f args σ' hx
        split at h
        · rename_i v σ'' hc
          simp only [Option.map_eq_some_iff] at h
          obtain ⟨r', hr, e⟩ := h
          exact step v σ'' _ r' hr ⟨rfl, fun hn => (by rw [hw] at hn; cases hn), fun _ => .inr ⟨hsoft, rfl, .inr (.inr ⟨f, args, σ', hx, hc⟩)⟩⟩ e.symm
        · rename_i ch σ'' hc
          cases h
          exact ⟨⟨rfl, rfl, rfl⟩, fun hn => by simp at hn, by simp, fun i o hi => by simp at hi, fun ch' σ3 hs => by
            simp at hs; obtain ⟨rfl, rfl⟩ := hs
            exact ⟨o, rfl, hw, .inr ⟨f, args, σ', hx, hc⟩⟩⟩
        · cases h
      · rename_i v σ' hx
        cases h
        exact ⟨⟨rfl, rfl, rfl⟩, fun hn => by simp at hn, by simp, fun i o hi => by simp at hi, fun ch' σ3 hs => by
          simp at hs; obtain ⟨rfl, rfl⟩ := hs
          exact ⟨o, rfl, hw, .inl ⟨v, hx, rfl⟩⟩⟩
      · cases h
    · rename_i hw
      simp only [Option.map_eq_some_iff] at h
      obtain ⟨r', hr, e⟩ := h
      exact step undef s.σ none r' hr ⟨rfl, fun _ => ⟨rfl, rfl, rfl⟩, fun hn => absurd hn hw⟩ e.symm
end

def loudOp (P : Program) (x : Op) : Bool := !quietOp P x && !softOp x
def isLoud (P : Program) (ops : Array Oper) (i : Nat) : Bool := match ops[i]? with
  | some o => loudOp P o.op
  | none => false
def edgesOK (l : List Oper) : Bool := l.zipIdx.all fun x => x.1.after.toList.all fun e => !Region.binds .any e || decide (e.on < x.2)
def pairsOK (P : Program) (ops : Array Oper) (ms : List Nat) (l : List Oper) : Bool :=
  l.zipIdx.all fun k => l.zipIdx.all fun i => !decide (i.2 < k.2) || (ms.getD k.2 0).testBit i.2 || (i.1.apart ops k.1 && !(loudOp P i.1.op && loudOp P k.1.op))
/-- what is asked of a drawing region's text -/
def staticOK (P : Program) (ops : Array Oper) : Bool := edgesOK ops.toList && pairsOK P ops (masks ops.toList []) ops.toList

def hosts (louds : List Nat) (ms : List Nat) (i q : Nat) : Bool :=
  louds.all fun l => (!(ms.getD i 0).testBit l || decide (l < q)) && (!(ms.getD l 0).testBit i || decide (q ≤ l))
def stable (P : Program) (X : AExt) (ops : Array Oper) (ms : List Nat) (louds : List Nat) (r : TRun) : Bool :=
  louds.isEmpty || (List.range r.st.length).all fun i => match ops[i]? with
    | none => false
    | some o => !quietOp P o.op || !awanted ops o (r.T i) || (0 :: louds.map (· + 1)).all fun q =>
        q == lastD (isLoud P ops) (fun _ => true) i || !hosts louds ms i q || (match aexec P X (r.T i) (r.S q) o with
          | some (.val v _) => veq v (r.V i)
          | _ => false)
/-- the blocks that are only made: not there ahead, and untouched by those that may come ahead of them -/
def softsOK (ms : List Nat) (louds : List Nat) (base : Nat) (r : TRun) : Bool := (List.range r.st.length).all fun i => match r.B i with
  | none => true
  | some x => (0 :: louds.map (· + 1)).all (fun q => decide (i < q) || ((r.S q).get (base + i)).isNone) &&
    louds.all (fun l => decide (l ≤ i) || (ms.getD l 0).testBit i || (match (r.S (l + 1)).get (base + i) with
      | some y => blkEq y x
      | none => false)) && decide ((r.S i).G = (r.S 0).G)
def stopOK (ms : List Nat) (n N : Nat) : Bool := ((List.range N).all fun i => (ms.getD N 0).testBit i) && (List.range n).all fun i => decide (i ≤ N) || (ms.getD i 0).testBit N

def _root_.Go.Ab.Mem.bump (m : Mem) (n : Nat) : Mem := { m with next := m.next + n }
/-- the abstract run of a region that draws -/
def adraw (P : Program) (X : AExt) (call : ACall) (ops : Array Oper) (s : AS) : Option (AExit × AS) :=
  match trun P X call ops s.σ.next ops.toList { s with σ := s.σ.bump ops.size } with
  | none => none
  | some r =>
    let ms := masks ops.toList []
    let louds := (List.range r.st.length).filter (isLoud P ops)
    if stable P X ops ms louds r && softsOK ms louds s.σ.next r then
      (match r.stop with
      | none => some (.normal, r.s)
      | some (ch, σ') => if stopOK ms ops.size r.st.length then some (.panic ch, { r.s with σ := σ' }) else none)
    else none

section
variable {P : Program} {X : AExt} {call : ACall} {ops : Array Oper} {Q : Exit → Act → World → Prop}
theorem range_all {n : Nat} {p : Nat → Bool} (h : (List.range n).all p = true) : ∀ i, i < n → p i = true := fun i hi => List.all_eq_true.1 h i (by simpa using hi)

theorem run_of {s : AS} {r : TRun} {base : Nat} (hst : staticOK P ops = true) (ht : trun P X call ops base ops.toList s = some r)
    (hsb : stable P X ops (masks ops.toList []) ((List.range r.st.length).filter (isLoud P ops)) r = true) (hso : softsOK (masks ops.toList []) ((List.range r.st.length).filter (isLoud P ops)) base r = true) :
    Run P X call ops r.st.length (isLoud P ops) (fun i => (masks ops.toList []).getD i 0) r.V s.tm r.S base r.B ∧ ∀ i, i ≤ r.st.length → actD ops r.V s.tm (fun _ => true) i = r.T i := by
  obtain ⟨⟨t0, s0, _⟩, hnone, hlen, hstage, _⟩ := trun_spec _ _ _ _ ht
  have hlen' : r.st.length ≤ ops.size := by simpa using hlen
  have hget : ∀ (i : Nat) (o : Oper), ops[i]? = some o → ops.toList[i]? = some o := fun i o h => by rw [Array.getElem?_toList]; exact h
  have hA : ∀ i, i ≤ r.st.length → actD ops r.V s.tm (fun _ => true) i = r.T i := by
    intro i
    induction i with
    | zero => intro _; exact t0.symm
    | succ i ih =>
      intro hi
      have hin : i < ops.size := by omega
      have := (hstage i ops[i] (by omega) (hget i _ (by simp [hin]))).tm
      simp only [actD, if_true]
      rw [this, ih (by omega)]
      have : (ops[i]?).bind (·.dst) = ops[i].dst := by simp [hin]
      rw [this]
  simp only [staticOK, Bool.and_eq_true] at hst
  obtain ⟨he, hp⟩ := hst
  have hsame : ∀ i, i < r.st.length → isLoud P ops i = false → r.B i = none → r.S (i + 1) = r.S i := by
    intro i hi hl hB
    have hin : i < ops.size := by omega
    have hs := hstage i ops[i] hi (hget i _ (by simp [hin]))
    cases hw : awanted ops ops[i] (r.T i) with
    | false => exact (hs.skip hw).2.2
    | true =>
      rcases hs.step hw with ⟨_, x, hx, _⟩ | ⟨hns, _, hstep⟩
      · rw [hB] at hx; cases hx
      · have hq : quietOp P ops[i].op = true := by simpa [isLoud, loudOp, hin, hns] using hl
        rcases hstep with h | ⟨h, _⟩ | ⟨f, args, σ1, h, _⟩
        · obtain ⟨v, e⟩ := quiet_same hq h
          simp only [AN.val.injEq] at e; exact e.2
        · obtain ⟨v, e⟩ := quiet_same hq h; cases e
        · obtain ⟨v, e⟩ := quiet_same hq h; cases e
  have hsoft : ∀ i o x, i < r.st.length → ops[i]? = some o → r.B i = some x → softOp o.op = true ∧ awanted ops o (r.T i) = true ∧ asoft P (r.T i) (r.S i) (base + i) o = some (r.V i, x) ∧ r.S (i + 1) = (r.S i).set (base + i) x := by
    intro i o x hi ho hB
    have hs := hstage i o hi (hget i o ho)
    cases hw : awanted ops o (r.T i) with
    | false => rw [(hs.skip hw).2.1] at hB; cases hB
    | true =>
      rcases hs.step hw with ⟨h1, y, hy, h2, h3⟩ | ⟨_, hn, _⟩
      · rw [hB] at hy; cases hy; exact ⟨h1, rfl, h2, h3⟩
      · rw [hB] at hn; cases hn
  have hnil : ∀ i o, ops[i]? = some o → softOp o.op = true → isLoud P ops i = false := by
    intro i o ho hs
    simp [isLoud, loudOp, ho, hs]
  have hqmem : ∀ q, (q = 0 ∨ ∃ l, q = l + 1 ∧ l < r.st.length ∧ isLoud P ops l = true) → q ∈ 0 :: ((List.range r.st.length).filter (isLoud P ops)).map (· + 1) := by
    intro q hq
    rcases hq with rfl | ⟨l, rfl, hlN, hll⟩
    · simp
    · simp only [List.mem_cons, List.mem_map, List.mem_filter, List.mem_range]
      exact .inr ⟨l, ⟨hlN, hll⟩, rfl⟩
  have hsofts : ∀ i x, i < r.st.length → r.B i = some x → ((0 :: ((List.range r.st.length).filter (isLoud P ops)).map (· + 1)).all (fun q => decide (i < q) || ((r.S q).get (base + i)).isNone) = true ∧
      ((List.range r.st.length).filter (isLoud P ops)).all (fun l => decide (l ≤ i) || ((masks ops.toList []).getD l 0).testBit i || (match (r.S (l + 1)).get (base + i) with
        | some y => blkEq y x
        | none => false)) = true) ∧ (r.S i).G = (r.S 0).G := by
    intro i x hi hB
    have := range_all hso i hi
    rw [hB] at this
    simp only [Bool.and_eq_true, decide_eq_true_eq] at this
    exact this
  refine ⟨⟨hlen', ?_, ?_, ?_, hsame, ?_, ?_, ?_, ?_, ?_, ?_, ?_⟩, hA⟩
  · intro i o ho e hem hb
    simp only [edgesOK, List.all_eq_true] at he
    have := he (o, i) (by rw [List.mem_zipIdx_iff_getElem?]; exact hget i o ho) e (by simpa using hem)
    simpa [hb] using this
  · intro k o ho D hD hdeps i hi
    have hm := masks_strict ops.toList ops.toList [] (by simp) (by intro k o hk; simp at hk)
    have hl : ∀ (l : List Oper) (acc : List Nat), (masks l acc).length = acc.length + l.length := by
      intro l
      induction l with
      | nil => intro acc; rfl
      | cons x l ih => intro acc; simp only [masks]; rw [ih]; simp; omega
    have hkn : k < ops.size := by
      rcases Nat.lt_or_ge k ops.size with h | h
      · exact h
      · simp [Array.getElem?_eq_none h] at ho
    exact hm k o (by rw [hl]; simpa using hkn) (hget k o ho) D (fun i o' hi' hd e he' hb => hD i o' (by simpa using hi') hd e he' hb) hdeps i hi
  · intro i k oi ok hik hkN hoi hok hb
    simp only [pairsOK, List.all_eq_true] at hp
    have := hp (ok, k) (by rw [List.mem_zipIdx_iff_getElem?]; exact hget k ok hok) (oi, i) (by rw [List.mem_zipIdx_iff_getElem?]; exact hget i oi hoi)
    simp only [hik, decide_true, Bool.not_true, Bool.false_or, Bool.or_eq_true, Bool.and_eq_true] at this
    rcases this with h | ⟨h1, h2⟩
    · rw [h] at hb; cases hb
    · refine ⟨h1, ?_⟩
      simp only [isLoud, hoi, hok]
      cases hx : loudOp P oi.op <;> cases hy : loudOp P ok.op <;> simp [hx, hy] at h2 ⊢
  · intro i x hi hB
    have hin : i < ops.size := by omega
    obtain ⟨h1, _, _, h4⟩ := hsoft i ops[i] x hi (by simp [hin]) hB
    exact ⟨hnil i ops[i] (by simp [hin]) h1, h4⟩
  · intro i o x hi ho hB
    rw [hA i (by omega)]
    obtain ⟨_, h2, h3, _⟩ := hsoft i o x hi ho hB
    exact ⟨h2, (hsofts i x hi hB).2, h3⟩
  · intro i x hi hB q hq hqi
    have := List.all_eq_true.1 (hsofts i x hi hB).1.1 q (hqmem q hq)
    simp only [Bool.or_eq_true, decide_eq_true_eq, Option.isNone_iff_eq_none] at this
    rcases this with h | h
    · omega
    · exact h
  · intro i x hi hB l hlN hll hil hm
    have := List.all_eq_true.1 (hsofts i x hi hB).1.2 l (by simp [hlN, hll])
    simp only [hm, Bool.or_false, Bool.or_eq_true, decide_eq_true_eq] at this
    rcases this with h | h
    · omega
    · split at h
      · rename_i y hy
        rw [hy, blkEq_eq h]
      · cases h
  · intro i o hi ho hw
    rw [hA i (by omega)] at hw
    exact (hstage i o hi (hget i o ho)).skip hw
  · intro i o hi ho hl hB hw q hq h1 h2
    have hs := hstage i o hi (hget i o ho)
    rw [hA i (by omega)] at hw ⊢
    rcases hs.step hw with ⟨_, x, hx, _⟩ | ⟨hns, _, hstep⟩
    · rw [hB] at hx; cases hx
    have hqo : quietOp P o.op = true := by simpa [isLoud, loudOp, ho, hns] using hl
    have hbase : aexec P X (r.T i) (r.S i) o = some (.val (r.V i) (r.S i)) := by
      rcases hstep with h | ⟨h, _⟩ | ⟨f, args, σ1, h, _⟩
      · rw [h, hsame i hi hl hB]
      · obtain ⟨v, e⟩ := quiet_same hqo h; cases e
      · obtain ⟨v, e⟩ := quiet_same hqo h; cases e
    by_cases hown' : q = lastD (isLoud P ops) (fun _ => true) i
    · exact .inr ⟨hown', hbase⟩
    · left
      simp only [stable, Bool.or_eq_true] at hsb
      rcases hsb with hsb | hsb
      · -- no loud one at all
        exfalso
        rcases hq with rfl | ⟨l, rfl, hlN, hll⟩
        · apply hown'
          have : ∀ m, m ≤ r.st.length → lastD (isLoud P ops) (fun _ => true) m = 0 := by
            intro m
            induction m with
            | zero => intro _; rfl
            | succ m ih =>
              intro hm
              have hnl : isLoud P ops m = false := by
                cases hml : isLoud P ops m with
                | false => rfl
                | true =>
                  have : m ∈ (List.range r.st.length).filter (isLoud P ops) := by simp [hml]; omega
                  rw [List.isEmpty_iff.1 hsb] at this; cases this
              simp only [lastD, hnl, Bool.and_false, Bool.false_eq_true, if_false]
              exact ih (by omega)
          exact (this i (by omega)).symm
        · have : l ∈ (List.range r.st.length).filter (isLoud P ops) := by simp [hll, hlN]
          rw [List.isEmpty_iff.1 hsb] at this; cases this
      · have hi' := range_all hsb i hi
        simp only [ho, hqo, hw, Bool.not_true, Bool.false_or, List.all_eq_true] at hi'
        have := hi' q (hqmem q hq)
        have hne : (q == lastD (isLoud P ops) (fun _ => true) i) = false := by simpa using hown'
        have hho : hosts ((List.range r.st.length).filter (isLoud P ops)) (masks ops.toList []) i q = true := by
          simp only [hosts, List.all_eq_true, List.mem_filter, List.mem_range]
          rintro l ⟨hlN, hll⟩
          simp only [Bool.and_eq_true, Bool.or_eq_true, Bool.not_eq_true', decide_eq_true_eq]
          constructor
          · cases hb : ((masks ops.toList []).getD i 0).testBit l with
            | false => exact .inl rfl
            | true => exact .inr (h1 l hlN hll hb)
          · cases hb : ((masks ops.toList []).getD l 0).testBit i with
            | false => exact .inl rfl
            | true => exact .inr (h2 l hlN hll hb)
        simp only [hne, hho, Bool.not_true, Bool.false_or] at this
        split at this
        · rename_i v σ' hx
          obtain ⟨u, e⟩ := quiet_same hqo hx
          simp only [AN.val.injEq] at e
          obtain ⟨rfl, rfl⟩ := e
          rw [hx, veq_eq this]
        · cases this
  · intro i o hi ho hl hw
    rw [hA i (by omega)] at hw ⊢
    rcases (hstage i o hi (hget i o ho)).step hw with ⟨h1, _⟩ | ⟨_, _, h⟩
    · rw [hnil i o ho h1] at hl; cases hl
    · exact h

theorem adraw_ok (hng : NoNG P X) (hcall : CallOK P call) (hm : P.follows .mixedOrders = true) (hst : staticOK P ops = true) {s s' : AS} {e : AExit} {j : J} {c : Act} {w : World} {id : Nat}
    (hl : adraw P X call ops s = some (e, s')) (hs : SR j s c w) (hq : After j s.σ w e s' Q) : (Code.region id ops true).wp P Q c w := by
  unfold adraw at hl
  split at hl
  · cases hl
  · rename_i r hr
    simp only at hl
    split at hl
    · rename_i hsb
      simp only [Bool.and_eq_true] at hsb
      obtain ⟨hrun, hA⟩ := run_of hst hr hsb.1 hsb.2
      obtain ⟨⟨t0, s0, hdf⟩, hnone, hlen, hstage, hstop⟩ := trun_spec _ _ _ _ hr
      have hlen' : r.st.length ≤ ops.size := by simpa using hlen
      have hTN : r.T r.st.length = r.s.tm := by simp [TRun.T]
      have hSN : r.S r.st.length = r.s.σ := by simp [TRun.S]
      refine wp_run hng hcall hm hrun (df := s.df) (j := j) (σ0 := s.σ) hs.tm hs.df hs.wr rfl (by rw [s0]; simp [Mem.bump]; omega) (by rw [s0]; rfl) (by rw [s0]; intro a; rfl) ?_ ?_
      · intro hN j' c' w' h1 h2 h3 h4
        rw [hA _ (Nat.le_refl _), hTN] at h1
        rw [hSN] at h3 h4
        have : r.stop = none := by
          cases hsp : r.stop with
          | none => rfl
          | some x =>
            obtain ⟨ch, σ'⟩ := x
            obtain ⟨o, ho, _⟩ := hstop ch σ' hsp
            rw [List.getElem?_eq_none (by simp; omega)] at ho; cases ho
        rw [this] at hl
        cases hl
        exact hq _ _ _ j' .normal ⟨h1, by rw [hdf]; exact h2, h3⟩ h4
      · intro hN
        have hsome : ∃ ch σ', r.stop = some (ch, σ') := by
          cases hsp : r.stop with
          | none => have := hnone hsp; simp at this; omega
          | some x => exact ⟨x.1, x.2, rfl⟩
        obtain ⟨ch, σ', hsp⟩ := hsome
        rw [hsp] at hl
        simp only at hl
        split at hl
        · rename_i hso
          cases hl
          simp only [stopOK, Bool.and_eq_true] at hso
          refine ⟨fun i hi => range_all hso.1 i hi, fun i h1 h2 => ?_, ?_⟩
          · have := range_all hso.2 i h2
            simp only [Bool.or_eq_true, decide_eq_true_eq] at this
            rcases this with h | h
            · omega
            · exact h
          · intro K j' c' w' h1 h2 h3 h4
            rw [hA _ (Nat.le_refl _), hTN] at h1
            rw [hSN] at h3 h4
            obtain ⟨o, ho, hso⟩ := hstop ch σ' hsp
            have ho' : ops[r.st.length]? = some o := by simpa using ho
            unfold wpOp
            simp only [ho']
            rw [wanted_ok h1 ops o, if_pos hso.want]
            left
            unfold Oper.wp
            rcases hso.step with ⟨v, hx, rfl⟩ | ⟨f, args, σ1, hx, hc⟩
            · have hnr := aexec_ok hng h3 h1 hx
              generalize (execOp c'.eval o).run P w' = rr at hnr ⊢
              generalize hσ : r.s.σ = σs at hnr
              cases hnr with
              | panic _ v' hv =>
                refine hq _ _ _ j' (.panic _ _ (.cons _ _ _ _ hv rfl rfl .nil)) ⟨h1, by rw [← hdf] at h2; exact h2, ?_⟩ ?_
                · rw [← hσ]; exact h3
                · rw [← hσ]; exact h4
            · have hnr := aexec_ok hng h3 h1 hx
              generalize (execOp c'.eval o).run P w' = rr at hnr ⊢
              generalize hσ : r.s.σ = σs at hnr
              cases hnr with
              | enter _ _ args' hargs =>
                simp only [Oper.upon]
                refine (hcall _ _ _ _ _ hc j' w' args' (by rw [← hσ]; exact h3) hargs).mono fun e' w'' he => ?_
                obtain ⟨j2, g1, g2, g3⟩ := he
                cases g1 with
                | panic _ l' hch =>
                  refine hq _ _ _ j2 (.panic _ _ hch) ⟨h1.mono g3.mono, by rw [hdf]; exact h2.mono g3.mono, g2⟩ ?_
                  rw [hσ] at h4
                  exact h4.trans g3
        · cases hl
    · cases hl
end
end Go.Ab
