import Derived.Test.YtgfncelakfdmlaaGreatDoorAbSoft
/-! Blocks that are made early or late. -/
namespace Go.Ab
open Go

section
variable {j j' j0 : J} {σ σ' σ0 τ τ' : Mem} {w w' w0 : World}
theorem WR.less (h : WR j σ w) (hn : τ.next = σ.next) (hG : τ.G = σ.G) (hl : ∀ a im, j a = some im → τ.get a = none ∨ τ.get a = σ.get a) : WR j τ w := by
  have hs : ∀ a im, j a = some im → (τ.get a).isSome → (σ.get a).isSome := by
    intro a im ha hsm
    rcases hl a im ha with e | e
    · simp [e] at hsm
    · rwa [← e]
  refine ⟨fun a im ha => by rw [hn]; exact h.lt a im ha, fun a a' im im' ha ha' he s1 s2 => h.inj a a' im im' ha ha' he (hs a im ha s1) (hs a' im' ha' s2), ?_, fun g hg => h.glob g (by rw [← hG]; exact hg)⟩
  intro a im x ha hx
  rcases hl a im ha with e | e
  · rw [hx] at e; cases e
  · exact h.blk a im x ha (by rw [← e]; exact hx)
/-- a step of the lesser memory is a step of the greater -/
theorem step_less (h : WR j σ w) (h0 : Ext j0 σ0 w0 j σ w) (hn : τ.next = σ.next) (hG : τ.G = σ.G) (hl : ∀ a im, j a = some im → τ.get a = none ∨ τ.get a = σ.get a)
    (h' : WR j' τ' w') (hx : Ext j τ w j' τ' w') (hn' : σ'.next = τ'.next) (hG' : σ'.G = τ'.G)
    (hl' : ∀ a im, j' a = some im → σ'.get a = τ'.get a ∨ (j a = some im ∧ τ.get a = none ∧ σ'.get a = σ.get a)) : WR j' σ' w' ∧ Ext j0 σ0 w0 j' σ' w' := by
  have hs : ∀ a im, j a = some im → (τ.get a).isSome → (σ.get a).isSome := by
    intro a im ha hsm
    rcases hl a im ha with e | e
    · simp [e] at hsm
    · rwa [← e]
  refine ⟨⟨fun a im ha => by rw [hn']; exact h'.lt a im ha, ?_, ?_, fun g hg => h'.glob g (by rw [← hG']; exact hg)⟩, ?_⟩
  · have mixed : ∀ a a' im im', j' a = some im → j' a' = some im' → im.b = im'.b → (τ'.get a).isSome → j a' = some im' → τ.get a' = none → (σ.get a').isSome → a = a' := by
      intro a a' im im' ha ha' he s1 p1 p2 p3
      obtain ⟨a1, im1, q1, q2, q3⟩ := hx.live a im ha s1 (by rw [he]; exact h.sz p1 p3)
      have := h.inj a1 a' im1 im' q1 p1 (by omega) (hs a1 im1 q1 q3) p3
      subst this
      rw [p2] at q3; simp at q3
    intro a a' im im' ha ha' he s1 s2
    rcases hl' a im ha with e | ⟨e1, e2, e3⟩ <;> rcases hl' a' im' ha' with f | ⟨f1, f2, f3⟩
    · exact h'.inj a a' im im' ha ha' he (by rwa [← e]) (by rwa [← f])
    · exact mixed a a' im im' ha ha' he (by rwa [← e]) f1 f2 (by rwa [← f3])
    · exact (mixed a' a im' im ha' ha he.symm (by rwa [← f]) e1 e2 (by rwa [← e3])).symm
    · exact h.inj a a' im im' e1 f1 he (by rwa [← e3]) (by rwa [← f3])
  · intro a im x ha hxx
    rcases hl' a im ha with e | ⟨e1, e2, e3⟩
    · exact h'.blk a im x ha (by rw [← e]; exact hxx)
    · obtain ⟨o, ho, hb⟩ := h.blk a im x e1 (by rw [← e3]; exact hxx)
      refine ⟨o, ?_, hb.mono hx.mono⟩
      rw [hx.fr im.b (h.sz e1 (by rw [← e3]; simp [hxx])) ?_]
      · exact ho
      · intro a1 im1 g1 g2
        cases hg : τ.get a1 with
        | none => rfl
        | some y =>
          have := h.inj a1 a im1 im g1 e1 g2 (hs a1 im1 g1 (by simp [hg])) (by rw [← e3]; simp [hxx])
          subst this
          rw [e2] at hg; cases hg
  · refine ⟨h0.mono.trans hx.mono, ?_, by rw [hG', hx.G, hG, h0.G], hx.os.trans h0.os, hx.tape.trans h0.tape, hx.output.trans h0.output, Nat.le_trans h0.size hx.size, ?_, ?_, ?_⟩
    · have := h0.next; have := hx.next; omega
    · intro b hb hno
      rw [hx.fr b (Nat.lt_of_lt_of_le hb h0.size) ?_, h0.fr b hb hno]
      intro a im ha hab
      cases hg : τ.get a with
      | none => rfl
      | some x =>
        obtain ⟨a0, im0, g0, g1, g2⟩ := h0.live a im ha (hs a im ha (by simp [hg])) (by omega)
        rw [hno a0 im0 g0 (by omega)] at g2
        simp at g2
    · intro a im ha hsm hlt
      rcases hl' a im ha with e | ⟨e1, e2, e3⟩
      · obtain ⟨a1, im1, g1, g2, g3⟩ := hx.live a im ha (by rwa [← e]) (Nat.lt_of_lt_of_le hlt h0.size)
        obtain ⟨a0, im0, f1, f2, f3⟩ := h0.live a1 im1 g1 (hs a1 im1 g1 g3) (by omega)
        exact ⟨a0, im0, f1, by omega, f3⟩
      · exact h0.live a im e1 (by rwa [← e3]) hlt
    · intro a im ha
      rcases hx.dom a im ha with e | e
      · exact h0.dom a im e
      · exact .inr (by have := h0.next; omega)
/-- a new block under a name that was kept for it -/
theorem soft_step (h : WR j σ w) (h0 : Ext j0 σ0 w0 j σ w) {id : Nat} (hj : j id = none) (hge : σ0.next ≤ id) (hlt : id < σ.next) {cs cs' : List Value} {T : TypeId} (hv : VRs j cs cs') :
    Le j (upd j id ⟨w.heap.size, cs.length⟩) ∧ WR (upd j id ⟨w.heap.size, cs.length⟩) (σ.set id (.row cs T (0, 0))) { w with heap := w.heap.push (.cells cs'.toArray T (0, 0)) } ∧
      Ext j0 σ0 w0 (upd j id ⟨w.heap.size, cs.length⟩) (σ.set id (.row cs T (0, 0))) { w with heap := w.heap.push (.cells cs'.toArray T (0, 0)) } := by
  have hle : Le j (upd j id ⟨w.heap.size, cs.length⟩) := by
    intro a im ha
    rw [upd_ne]
    · exact ha
    · rintro rfl; rw [hj] at ha; cases ha
  have hget : ∀ b, (σ.set id (.row cs T (0, 0))).get b = if id = b then some (.row cs T (0, 0)) else σ.get b := fun b => σ.get_set id b _
  have hcase : ∀ a im, upd j id ⟨w.heap.size, cs.length⟩ a = some im → (a = id ∧ im = ⟨w.heap.size, cs.length⟩) ∨ (a ≠ id ∧ j a = some im ∧ ((σ.get a).isSome → im.b < w.heap.size)) := by
    intro a im ha
    by_cases e : a = id
    · subst e; rw [upd_same] at ha; cases ha; exact .inl ⟨rfl, rfl⟩
    · rw [upd_ne _ _ e] at ha; exact .inr ⟨e, ha, h.sz ha⟩
  refine ⟨hle, ⟨?_, ?_, ?_, ?_⟩, ?_⟩
  · intro a im ha
    rcases hcase a im ha with ⟨rfl, rfl⟩ | ⟨e, e1, e2⟩
    · simp; exact hlt
    · have := h.lt a im e1; simp; omega
  · intro a a' im im' ha ha' he s1 s2
    rcases hcase a im ha with ⟨rfl, rfl⟩ | ⟨e, e1, e2⟩ <;> rcases hcase a' im' ha' with ⟨rfl, rfl⟩ | ⟨f, f1, f2⟩
    · rfl
    · rw [hget, if_neg (Ne.symm f)] at s2; have := f2 s2; simp at he; omega
    · rw [hget, if_neg (Ne.symm e)] at s1; have := e2 s1; simp at he; omega
    · rw [hget, if_neg (Ne.symm e)] at s1
      rw [hget, if_neg (Ne.symm f)] at s2
      exact h.inj a a' im im' e1 f1 he s1 s2
  · intro a im x ha hx
    rcases hcase a im ha with ⟨rfl, rfl⟩ | ⟨e, e1, e2⟩
    · rw [hget, if_pos rfl] at hx; cases hx
      refine ⟨.cells cs'.toArray T (0, 0), by simp, .row _ _ _ _ _ (by simp [hv.length]) (by simp [FrR, BIG]) (Nat.le_refl _) ?_⟩
      have : cs'.toArray.toList.take cs.length = cs' := by rw [hv.length]; simp
      rw [this]; exact hv.mono hle
    · rw [hget, if_neg (Ne.symm e)] at hx
      obtain ⟨o, ho, hb⟩ := h.blk a im x e1 hx
      have := e2 (by simp [hx])
      refine ⟨o, ?_, hb.mono hle⟩
      simp only [Array.getElem?_push]; rw [if_neg (by omega)]; exact ho
  · intro g hg
    obtain ⟨im, h1, h2⟩ := h.glob g hg
    exact ⟨im, hle _ _ h1, h2⟩
  · refine ⟨h0.mono.trans hle, h0.next, h0.G, h0.os, h0.tape, h0.output, ?_, ?_, ?_, ?_⟩
    · have := h0.size; simp; omega
    · intro b hb hno
      have := h0.size
      simp only [Array.getElem?_push]; rw [if_neg (by omega)]; exact h0.fr b hb hno
    · intro a im ha hs hl
      rcases hcase a im ha with ⟨rfl, rfl⟩ | ⟨e, e1, e2⟩
      · have := h0.size; simp at hl; omega
      · rw [hget, if_neg (Ne.symm e)] at hs
        exact h0.live a im e1 hs hl
    · intro a im ha
      rcases hcase a im ha with ⟨rfl, rfl⟩ | ⟨e, e1, e2⟩
      · exact .inr hge
      · exact h0.dom a im e1
theorem Ext.same (h0 : Ext j0 σ0 w0 j σ w) (hn : τ.next = σ.next) (hG : τ.G = σ.G) (hl : ∀ a im, j a = some im → τ.get a = none ∨ τ.get a = σ.get a) : Ext j0 σ0 w0 j τ w :=
  ⟨h0.mono, by rw [hn]; exact h0.next, by rw [hG]; exact h0.G, h0.os, h0.tape, h0.output, h0.size, h0.fr, fun a im ha hs hlt => by
    rcases hl a im ha with e | e
    · simp [e] at hs
    · exact h0.live a im ha (by rwa [← e]) hlt, h0.dom⟩
end

/-- the block kept for operation a - base, if p names it -/
def sel (base : Nat) (B : Nat → Option Blk) (p : Nat → Bool) (a : Nat) : Option Blk := if base ≤ a && p (a - base) then B (a - base) else none
theorem sel_at {base : Nat} {B : Nat → Option Blk} {p : Nat → Bool} (i : Nat) : sel base B p (base + i) = if p i then B i else none := by
  simp [sel]
theorem sel_some {base : Nat} {B : Nat → Option Blk} {p : Nat → Bool} {a : Nat} {x : Blk} (h : sel base B p a = some x) : ∃ i, a = base + i ∧ p i = true ∧ B i = some x := by
  unfold sel at h
  split at h
  · rename_i hc
    simp only [Bool.and_eq_true, decide_eq_true_eq] at hc
    exact ⟨a - base, by omega, hc.2, h⟩
  · cases h
theorem sel_ex (base : Nat) (B : Nat → Option Blk) (p : Nat → Bool) (σ : Mem) : ∀ m, ∃ σ' : Mem, σ'.next = σ.next ∧ σ'.G = σ.G ∧ ∀ a, σ'.get a = (sel base B (fun i => p i && decide (i < m)) a).or (σ.get a)
  | 0 => ⟨σ, rfl, rfl, fun a => by simp [sel]⟩
  | m + 1 => by
    obtain ⟨σ', h1, h2, h3⟩ := sel_ex base B p σ m
    cases hc : (if p m then B m else none) with
    | none =>
      refine ⟨σ', h1, h2, fun a => ?_⟩
      rw [h3]
      congr 1
      unfold sel
      by_cases e : a - base = m
      · rw [e]
        by_cases hp : p m = true
        · simp only [hp, if_true] at hc; simp [hc]
        · simp [hp]
      · have : (decide (a - base < m + 1)) = decide (a - base < m) := by simp; omega
        simp only [this]
    | some x =>
      refine ⟨σ'.set (base + m) x, by simpa using h1, by simpa using h2, fun a => ?_⟩
      rw [Mem.get_set]
      by_cases e : base + m = a
      · subst e
        rw [if_pos rfl, sel_at]
        by_cases hp : p m = true
        · simp only [hp, if_true] at hc; simp [hp, hc]
        · simp [hp] at hc
      · rw [if_neg e, h3]
        congr 1
        unfold sel
        by_cases hb : base ≤ a
        · have : (decide (a - base < m + 1)) = decide (a - base < m) := by simp; omega
          simp only [this]
        · simp [hb]
end Go.Ab
