import Derived.Test.YtgfncelakfdmlaaGreatDoorAbRun
/-! A call that was run once: its answer serves wherever the memory that it reads is the same. -/
namespace Go.Ab
open Go

def setAll : List (Nat × Blk) → Mem → Mem
  | [], σ => σ
  | p :: l, σ => (setAll l σ).set p.1 p.2
def killAll : List (Nat × Blk) → Mem → Mem
  | [], σ => σ
  | p :: l, σ => (killAll l σ).kill p.1
def memOf (next G : Nat) (l : List (Nat × Blk)) : Mem := setAll l ⟨next, G, .nil⟩
theorem setAll_next (l : List (Nat × Blk)) (σ : Mem) : (setAll l σ).next = σ.next ∧ (setAll l σ).G = σ.G := by
  induction l with
  | nil => exact ⟨rfl, rfl⟩
  | cons p l ih => simpa [setAll] using ih
theorem killAll_next (l : List (Nat × Blk)) (σ : Mem) : (killAll l σ).next = σ.next ∧ (killAll l σ).G = σ.G := by
  induction l with
  | nil => exact ⟨rfl, rfl⟩
  | cons p l ih => simpa [killAll] using ih
theorem setAll_get (l : List (Nat × Blk)) (σ : Mem) (a : Nat) : (∃ x, (a, x) ∈ l ∧ (setAll l σ).get a = some x) ∨ ((∀ x, (a, x) ∉ l) ∧ (setAll l σ).get a = σ.get a) := by
  induction l with
  | nil => exact .inr ⟨by simp, rfl⟩
  | cons p l ih =>
    simp only [setAll, Mem.get_set]
    by_cases h : p.1 = a
    · left
      subst h
      exact ⟨p.2, by simp, by simp⟩
    · rw [if_neg h]
      rcases ih with ⟨x, h1, h2⟩ | ⟨h1, h2⟩
      · exact .inl ⟨x, by simp [h1], h2⟩
      · refine .inr ⟨fun x hx => ?_, h2⟩
        rcases List.mem_cons.1 hx with e | e
        · subst e; exact h rfl
        · exact h1 x e
theorem killAll_get (l : List (Nat × Blk)) (σ : Mem) (a : Nat) : ((∃ x, (a, x) ∈ l) ∧ (killAll l σ).get a = none) ∨ ((∀ x, (a, x) ∉ l) ∧ (killAll l σ).get a = σ.get a) := by
  induction l with
  | nil => exact .inr ⟨by simp, rfl⟩
  | cons p l ih =>
    simp only [killAll, Mem.get_kill]
    by_cases h : p.1 = a
    · left
      subst h
      exact ⟨⟨p.2, by simp⟩, by simp⟩
    · rw [if_neg h]
      rcases ih with ⟨⟨x, h1⟩, h2⟩ | ⟨h1, h2⟩
      · exact .inl ⟨⟨x, by simp [h1]⟩, h2⟩
      · refine .inr ⟨fun x hx => ?_, h2⟩
        rcases List.mem_cons.1 hx with e | e
        · subst e; exact h rfl
        · exact h1 x e
theorem get_empty (n G a : Nat) : (⟨n, G, .nil⟩ : Mem).get a = none := by simp [Mem.get, Trie.get_nil]
theorem memOf_get (next G : Nat) (l : List (Nat × Blk)) (a : Nat) : (∃ x, (a, x) ∈ l ∧ (memOf next G l).get a = some x) ∨ ((∀ x, (a, x) ∉ l) ∧ (memOf next G l).get a = none) := by
  have := setAll_get l ⟨next, G, .nil⟩ a
  rwa [get_empty] at this

def has (σ : Mem) (l : List (Nat × Blk)) : Bool := l.all fun p => match σ.get p.1 with
  | some x => blkEq x p.2
  | none => false
theorem has_spec {σ : Mem} {l : List (Nat × Blk)} (h : has σ l = true) {a : Nat} {x : Blk} (hx : (a, x) ∈ l) : σ.get a = some x := by
  have := List.all_eq_true.1 h (a, x) hx
  simp only at this
  split at this
  · rename_i y hy
    rw [hy, blkEq_eq this]
  · cases this
def fresh (σ : Mem) (next next' : Nat) : Bool := (List.range (next' - next)).all fun i => (σ.get (next + i)).isNone

/-- a call that was run: on what memory, and what it left -/
structure Memo where
  f : FuncId
  args : List Value
  next : Nat
  G : Nat
  pre : List (Nat × Blk)
  r : Value
  next' : Nat
  post : List (Nat × Blk)

def Memo.holds (call : ACall) (m : Memo) : Bool := match call m.f m.args (memOf m.next m.G m.pre) with
  | some (.ret v, σ') => veq v m.r && decide (σ'.next = m.next') && decide (σ'.G = m.G) && has σ' m.post
  | _ => false
def Memo.after (m : Memo) (σ : Mem) : Mem := { setAll m.post (killAll m.pre σ) with next := m.next' }
def Memo.apply (m : Memo) : ACall := fun f args σ =>
  if f = m.f && veqs args m.args && decide (σ.next = m.next) && decide (σ.G = m.G) && has σ m.pre && fresh σ m.next m.next' then some (.ret m.r, m.after σ) else none
def memos : List Memo → ACall
  | [], _, _, _ => none
  | m :: l, f, args, σ => match m.apply f args σ with
    | some r => some r
    | none => memos l f args σ

variable {P : Program}
theorem Memo.apply_ok {call : ACall} (hcall : CallOK P call) {m : Memo} (hm : m.holds call = true) : CallOK P m.apply := by
  intro f args σ r σ' hl j w args' hw hv
  unfold Memo.apply at hl
  split at hl
  · rename_i hc
    simp only [Bool.and_eq_true, decide_eq_true_eq] at hc
    obtain ⟨⟨⟨⟨⟨hf, hargs⟩, hnext⟩, hG⟩, hpre⟩, hfresh⟩ := hc
    cases hl
    subst hf
    have := veqs_eq hargs
    subst this
    unfold Memo.holds at hm
    split at hm
    · rename_i v σ1 hrun
      simp only [Bool.and_eq_true, decide_eq_true_eq] at hm
      obtain ⟨⟨⟨hr, hnx⟩, hG'⟩, hpost⟩ := hm
      have hless : ∀ a im, j a = some im → (memOf m.next m.G m.pre).get a = none ∨ (memOf m.next m.G m.pre).get a = σ.get a := by
        intro a im _
        rcases memOf_get m.next m.G m.pre a with ⟨x, h1, h2⟩ | ⟨_, h2⟩
        · right; rw [h2, has_spec hpre h1]
        · exact .inl h2
      have hτn : (memOf m.next m.G m.pre).next = σ.next := by rw [hnext]; exact (setAll_next _ _).1
      have hτG : (memOf m.next m.G m.pre).G = σ.G := by rw [hG]; exact (setAll_next _ _).2
      have hwτ := hw.less hτn hτG hless
      refine (hcall _ _ _ _ _ hrun j w args' hwτ hv).mono fun e w' he => ?_
      obtain ⟨j', h1, h2, h3⟩ := he
      have e1 := veq_eq hr
      subst e1
      have hless' : ∀ a im, j' a = some im → (memOf m.next' m.G m.post).get a = none ∨ (memOf m.next' m.G m.post).get a = σ1.get a := by
        intro a im _
        rcases memOf_get m.next' m.G m.post a with ⟨x, g1, g2⟩ | ⟨_, g2⟩
        · right; rw [g2, has_spec hpost g1]
        · exact .inl g2
      have hn' : (memOf m.next' m.G m.post).next = σ1.next := by rw [hnx]; exact (setAll_next _ _).1
      have hG2 : (memOf m.next' m.G m.post).G = σ1.G := by rw [hG']; exact (setAll_next _ _).2
      have h2' := h2.less hn' hG2 hless'
      have h3' := h3.same hn' hG2 hless'
      obtain ⟨f1, f2⟩ := step_less (σ' := m.after σ) hw (Ext.refl j σ w) hτn hτG hless h2' h3' (by rw [hn', hnx]; rfl)
        (by
          have : (m.after σ).G = (setAll m.post (killAll m.pre σ)).G := rfl
          rw [this, (setAll_next _ _).2, (killAll_next _ _).2, hG2, hG', hG])
        (fun a im ha => by
          have hg : (m.after σ).get a = (setAll m.post (killAll m.pre σ)).get a := rfl
          rw [hg]
          rcases memOf_get m.next' m.G m.post a with ⟨x, g1, g2⟩ | ⟨g1, g2⟩
          · rcases setAll_get m.post (killAll m.pre σ) a with ⟨y, k1, k2⟩ | ⟨k1, _⟩
            · left
              rw [k2, ← has_spec hpost k1, g2, has_spec hpost g1]
            · exact absurd g1 (k1 x)
          · rcases setAll_get m.post (killAll m.pre σ) a with ⟨y, k1, k2⟩ | ⟨k1, k2⟩
            · exact absurd k1 (g1 y)
            · rw [k2]
              rcases killAll_get m.pre σ a with ⟨_, q2⟩ | ⟨q1, q2⟩
              · left; rw [q2, g2]
              · rw [q2]
                have hτ0 : (memOf m.next m.G m.pre).get a = none := by
                  rcases memOf_get m.next m.G m.pre a with ⟨x, p1, _⟩ | ⟨_, p2⟩
                  · exact absurd p1 (q1 x)
                  · exact p2
                rcases h3.dom a im ha with d | d
                · exact .inr ⟨d, hτ0, rfl⟩
                · left
                  rw [g2]
                  have hlt := h2.lt a im ha
                  rw [hτn, hnext] at d
                  have := range_all hfresh (a - m.next) (by omega)
                  rw [show m.next + (a - m.next) = a by omega] at this
                  simpa using this)
      exact ⟨j', h1, f1, f2⟩
    · cases hm
  · cases hl
theorem memos_ok : ∀ {l : List Memo}, (∀ m ∈ l, CallOK P m.apply) → CallOK P (memos l)
  | [], _ => by intro f args σ r σ' h; cases h
  | m :: l, h => by
    intro f args σ r σ' hl
    simp only [memos] at hl
    split at hl
    · rename_i q hq
      cases hl
      exact h m (by simp) f args σ r σ' hq
    · exact memos_ok (fun x hx => h x (by simp [hx])) f args σ r σ' hl
theorem memos_nil : CallOK P (memos []) := by intro f args σ r σ' h; cases h
theorem memos_cons {m : Memo} {l : List Memo} (h : CallOK P m.apply) (k : CallOK P (memos l)) : CallOK P (memos (m :: l)) := by
  intro f args σ r σ' hl
  simp only [memos] at hl
  split at hl
  · rename_i q hq; cases hl; exact h f args σ r σ' hq
  · exact k f args σ r σ' hl
/-- one answer, then another -/
def orElse (a b : ACall) : ACall := fun f args σ => match a f args σ with
  | some r => some r
  | none => b f args σ
theorem orElse_ok {a b : ACall} (ha : CallOK P a) (hb : CallOK P b) : CallOK P (orElse a b) := by
  intro f args σ r σ' hl
  unfold orElse at hl
  split at hl
  · rename_i q hq; cases hl; exact ha f args σ r σ' hq
  · exact hb f args σ r σ' hl
end Go.Ab
