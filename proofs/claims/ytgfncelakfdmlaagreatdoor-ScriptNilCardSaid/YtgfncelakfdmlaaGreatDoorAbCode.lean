import Derived.Test.YtgfncelakfdmlaaGreatDoorAbDraw2
import Derived.LoopN
import Derived.Recover
/-! Code, loops, calls, deferred calls, recover. -/
namespace Go.Ab
open Go

def aloop (body : AS → Option (AExit × AS)) : Nat → AS → Option (AExit × AS)
  | 0, _ => none
  | n + 1, s => match body s with
    | some (.normal, s') => aloop body n s'
    | r => r
def acode (P : Program) (X : AExt) (call : ACall) (lf : Nat) : Code → AS → Option (AExit × AS)
  | .skip, s => some (.normal, s)
  | .region _ ops false, s => aops P X call ops ops.toList s
  | .region _ ops true, s => adraw P X call ops s
  | .seq a b, s => match acode P X call lf a s with
    | some (.normal, s') => acode P X call lf b s'
    | r => r
  | .cond c x y, s => match aev s.tm s.σ c with
    | some (.bool true) => acode P X call lf x s
    | some (.bool false) => acode P X call lf y s
    | _ => none
  | .block id c, s => match acode P X call lf c s with
    | some (.exit id', s') => if id' = id then some (.normal, s') else some (.exit id', s')
    | r => r
  | .loop c, s => aloop (fun s => acode P X call lf c s) lf s
  | .exit id, s => some (.exit id, s)
  | .ret, s => some (.ret, s)
  | _, _ => none

/-- the drawing regions of a body pass the static check -/
def codeOK (P : Program) : Code → Bool
  | .region _ ops true => staticOK P ops
  | .seq a b => codeOK P a && codeOK P b
  | .cond _ x y => codeOK P x && codeOK P y
  | .block _ c => codeOK P c
  | .loop c => codeOK P c
  | _ => true

section
variable {P : Program} {X : AExt} {call : ACall} {lf : Nat} {Q : Exit → Act → World → Prop}

theorem range_get (ops : Array Oper) : (List.range ops.size).map (ops[·]?) = ops.toList.map some := by
  apply List.ext_getElem?
  intro i
  simp only [List.getElem?_map, List.getElem?_range]
  rcases Nat.lt_or_ge i ops.size with h | h
  · simp [h]
  · simp [h]

theorem ExR.ne {j : J} {e : AExit} {e' : Exit} (h : ExR j e e') (hn : e ≠ .normal) : e' ≠ .normal := by
  cases h <;> simp_all

theorem acode_ok (hng : NoNG P X) (hcall : CallOK P call) (hm : P.follows .mixedOrders = true) : ∀ (c : Code), codeOK P c = true → ∀ {s s' : AS} {e : AExit} {j : J} {a : Act} {w : World} {Q : Exit → Act → World → Prop},
    acode P X call lf c s = some (e, s') → SR j s a w → After j s.σ w e s' Q → c.wp P Q a w
  | .skip, _, s, s', e, j, a, w, Q, hl, hs, hq => by
    simp only [acode] at hl; cases hl
    exact wp_skip (hq _ _ _ j .normal hs (Ext.refl _ _ _))
  | .region id ops false, _, s, s', e, j, a, w, Q, hl, hs, hq => by
    simp only [acode] at hl
    exact wp_region (aops_ok hng hcall ops.toList (List.range ops.size) (range_get ops) hl hs hq)
  | .region id ops true, hc, s, s', e, j, a, w, Q, hl, hs, hq => by
    simp only [acode] at hl
    simp only [codeOK] at hc
    exact adraw_ok hng hcall hm hc hl hs hq
  | .seq x y, hc, s, s', e, j, a, w, Q, hl, hs, hq => by
    simp only [acode] at hl
    simp only [codeOK, Bool.and_eq_true] at hc
    refine wp_seq ?_
    split at hl
    · rename_i s1 h1
      refine acode_ok hng hcall hm x hc.1 h1 hs ?_
      intro e' c' w' j' he hs' hx
      cases he
      exact acode_ok hng hcall hm y hc.2 hl hs' (hq.step hx)
    · rename_i hn
      refine acode_ok hng hcall hm x hc.1 hl hs ?_
      intro e' c' w' j' he hs' hx
      have hne : e ≠ .normal := by rintro rfl; exact hn _ hl
      have hq' := hq e' c' w' j' he hs' hx
      have := he.ne hne
      cases e' <;> first | exact hq' | exact absurd rfl this
  | .cond c x y, hc, s, s', e, j, a, w, Q, hl, hs, hq => by
    simp only [acode] at hl
    simp only [codeOK, Bool.and_eq_true] at hc
    split at hl
    · rename_i hb
      exact wp_cond_true (aev_ok hs.wr hs.tm hb).bool_inv (acode_ok hng hcall hm x hc.1 hl hs hq)
    · rename_i hb
      exact wp_cond_false (aev_ok hs.wr hs.tm hb).bool_inv (acode_ok hng hcall hm y hc.2 hl hs hq)
    · cases hl
  | .block id c, hc, s, s', e, j, a, w, Q, hl, hs, hq => by
    simp only [acode] at hl
    simp only [codeOK] at hc
    refine wp_block ?_
    split at hl
    · rename_i id' s1 h1
      refine acode_ok hng hcall hm c hc h1 hs ?_
      intro e' c' w' j' he hs' hx
      cases he
      simp only [Exit.inBlock]
      split at hl
      · rename_i hid
        cases hl
        rw [if_pos hid]
        exact hq _ _ _ j' .normal hs' hx
      · rename_i hid
        cases hl
        rw [if_neg hid]
        exact hq _ _ _ j' (.exit _) hs' hx
    · rename_i hn
      refine acode_ok hng hcall hm c hc hl hs ?_
      intro e' c' w' j' he hs' hx
      have hq' := hq e' c' w' j' he hs' hx
      cases he with
      | exit id' => exact absurd hl (hn _ _)
      | _ => exact hq'
  | .loop c, hc, s, s', e, j, a, w, Q, hl, hs, hq => by
    simp only [acode] at hl
    simp only [codeOK] at hc
    refine wp_loop_rounds lf ?_
    have key : ∀ (n : Nat) (s : AS) (j : J) (a : Act) (w : World), aloop (fun s => acode P X call lf c s) n s = some (e, s') → SR j s a w → After j s.σ w e s' Q → Code.rounds P c Q n a w := by
      intro n
      induction n with
      | zero => intro s j a w h; simp [aloop] at h
      | succ n ih =>
        intro s j a w h hs hq
        simp only [aloop] at h
        rw [rounds_succ]
        split at h
        · rename_i s1 h1
          refine acode_ok hng hcall hm c hc h1 hs ?_
          intro e' c' w' j' he hs' hx
          cases he
          exact ih s1 j' c' w' h hs' (hq.step hx)
        · rename_i hn
          refine acode_ok hng hcall hm c hc h hs ?_
          intro e' c' w' j' he hs' hx
          have hne : e ≠ .normal := by rintro rfl; exact hn _ h
          have hq' := hq e' c' w' j' he hs' hx
          have := he.ne hne
          cases e' <;> first | exact hq' | exact absurd rfl this
    exact key lf s j a w hl hs hq
  | .exit id, _, s, s', e, j, a, w, Q, hl, hs, hq => by
    simp only [acode] at hl; cases hl
    exact wp_exit (hq _ _ _ j (.exit id) hs (Ext.refl _ _ _))
  | .ret, _, s, s', e, j, a, w, Q, hl, hs, hq => by
    simp only [acode] at hl; cases hl
    exact wp_ret (hq _ _ _ j .ret hs (Ext.refl _ _ _))
  | .rangeFunc _ _ _ _, _, _, _, _, _, _, _, _, hl, _, _ => by cases hl
  | .scope _, _, _, _, _, _, _, _, _, hl, _, _ => by cases hl
  | .label _, _, _, _, _, _, _, _, _, hl, _, _ => by cases hl
  | .goto _, _, _, _, _, _, _, _, _, hl, _, _ => by cases hl
  | .refuse _, _, _, _, _, _, _, _, _, hl, _, _ => by cases hl
end

/-! ### results -/
def aresult (P : Program) (s : AS) : ResultVar → Option Value
  | .tmp t => some (s.tm.get t)
  | .cell a t => match s.tm.get a with
    | .pointer (some p) => xLoadVar P s.σ t p
    | _ => none
def aresults (P : Program) (s : AS) : List ResultVar → Option (List Value)
  | [] => some []
  | r :: rs => match aresult P s r, aresults P s rs with
    | some v, some l => some (v :: l)
    | _, _ => none
def tupled : List Value → Value
  | [v] => v
  | l => .tuple l.toArray
def resSem (tmps : Array Value) (r : ResultVar) : Sem Value := match r with
  | .tmp t => pure (tmps.getD t undef)
  | .cell a t => do loadVar t (← asAddr (tmps.getD a undef))
theorem results_eq (fn : Func) (tmps : Array Value) : results fn tmps = (do let vs ← fn.results.mapM (resSem tmps); pure (if h : vs.size = 1 then vs[0] else .tuple vs)) := rfl
theorem aresult_ok {P : Program} {s : AS} {j : J} {c : Act} {w : World} (hs : SR j s c w) {r : ResultVar} {v : Value} (h : aresult P s r = some v) :
    ∃ v', (resSem c.tmps r).run P w = .ok v' w ∧ VR j v v' := by
  cases r with
  | tmp t => simp only [aresult] at h; cases h; exact ⟨_, rfl, hs.tm.get t⟩
  | cell a t =>
    simp only [aresult] at h
    split at h
    · rename_i p hp
      have hg := hs.tm.get a
      rw [hp] at hg
      obtain ⟨im, hj, e⟩ := hg.ptr_inv
      obtain ⟨v', g1, g2⟩ := xLoadVar_ok hs.wr hj h
      exact ⟨v', by simp only [resSem, e, asAddr, pure_bind]; exact g1, g2⟩
    · cases h
theorem aresults_ok {P : Program} {s : AS} {j : J} {c : Act} {w : World} (hs : SR j s c w) : ∀ {rs : List ResultVar} {l : List Value}, aresults P s rs = some l →
    ∃ l', (rs.mapM (resSem c.tmps)).run P w = .ok l' w ∧ VRs j l l'
  | [], l, h => by simp only [aresults] at h; cases h; exact ⟨[], by simp, .nil⟩
  | r :: rs, l, h => by
    simp only [aresults] at h
    split at h
    · rename_i v l1 h1 h2
      cases h
      obtain ⟨l', e1, e2⟩ := aresults_ok hs h2
      obtain ⟨v', g1, g2⟩ := aresult_ok hs h1
      refine ⟨v' :: l', ?_, .cons _ _ _ _ g2 e2⟩
      simp only [List.mapM_cons, Sem.run_bind, g1, Result.andThen_ok, e1, Sem.run_pure]
    · cases h
theorem results_ok {P : Program} {fn : Func} {s : AS} {j : J} {c : Act} {w : World} (hs : SR j s c w) {l : List Value} (hl : aresults P s fn.results.toList = some l) :
    ∃ v', (results fn c.tmps).run P w = .ok v' w ∧ VR j (tupled l) v' := by
  obtain ⟨l', h1, h2⟩ := aresults_ok hs hl
  have hm : (fn.results.mapM (resSem c.tmps)).run P w = .ok l'.toArray w := by
    rw [Array.mapM_eq_mapM_toList, Sem.run_map, h1]; rfl
  rw [results_eq]
  simp only [Sem.run_bind]
  rw [hm]
  simp only [Result.andThen_ok, Sem.run_pure]
  cases h2 with
  | nil => exact ⟨_, rfl, .tuple _ _ .nil⟩
  | cons v v' l1 l1' hv ht =>
    cases ht with
    | nil => exact ⟨v', by simp, hv⟩
    | cons u u' l2 l2' hu ht' =>
      refine ⟨.tuple (v' :: u' :: l2').toArray, by simp, ?_⟩
      exact .tuple _ _ (.cons _ _ _ _ hv (.cons _ _ _ _ hu ht'))

theorem enter_ok {j : J} {σ : Mem} {w : World} (h : WR j σ w) {args : List Value} {args' : Array Value} (hv : VRs j args args'.toList) {n : Nat} (hn : args.length ≤ n) :
    SR j ⟨Tm.ofList n args, [], σ⟩ { tmps := args' ++ Array.replicate (n - args'.size) undef, defers := [] } w := by
  have hl := hv.length
  simp only [Array.length_toList] at hl
  refine ⟨⟨by simp; omega, fun t => ?_⟩, .nil, h⟩
  simp only
  rw [Tm.get_ofList n args hn]
  simp only [Array.getD_eq_getD_getElem?]
  rcases Nat.lt_or_ge t args.length with ht | ht
  · obtain ⟨v', g1, g2⟩ := hv.get (List.getElem?_eq_getElem ht)
    rw [Array.getElem?_append_left (by omega)]
    simp only [Array.getElem?_toList] at g1
    rw [g1, List.getD, List.getElem?_eq_getElem ht]
    exact g2
  · rw [Array.getElem?_append_right (by omega), List.getD, List.getElem?_eq_none ht]
    have : ((Array.replicate (n - args'.size) undef)[t - args'.size]?).getD undef = undef := by
      rw [Array.getElem?_replicate]; split <;> rfl
    rw [this]
    exact VR.undef
end Go.Ab
