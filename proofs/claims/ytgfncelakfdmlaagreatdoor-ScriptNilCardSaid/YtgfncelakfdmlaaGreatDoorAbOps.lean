import Derived.Test.YtgfncelakfdmlaaGreatDoorAbRel
/-! Loads, stores and new blocks, in both memories. -/
namespace Go.Ab
open Go

def frz (fr : Nat × Nat) (off : Nat) : Bool := decide (fr.1 ≤ off) && decide (off < fr.2)
def oneCell : Value → Bool
  | .agg _ | .tuple _ => false
  | _ => true
theorem oneCell_vr {j : J} {v v' : Value} (h : VR j v v') : oneCell v' = oneCell v := by cases h <;> rfl

def aload (σ : Mem) (a : Addr) : Option Value :=
  match a.spot, σ.get a.block with
  | none, some (.row cs _ _) => cs[a.off]?
  | _, _ => none
def aloads (σ : Mem) (a : Addr) (n : Nat) : Option (List Value) :=
  match a.spot, σ.get a.block with
  | none, some (.row cs _ _) => if a.off + n ≤ cs.length then some ((cs.drop a.off).take n) else none
  | _, _ => none
def splice (cs : List Value) (off : Nat) : List Value → List Value
  | [] => cs
  | v :: vs => splice (cs.set off v) (off + 1) vs
def stored (fr : Nat × Nat) (off n : Nat) : Bool := fr.2 == 0 || (fr.1 == BIG && fr.2 == BIG) || (List.range n).all fun k => !frz fr (off + k)
def astores (σ : Mem) (a : Addr) (vs : List Value) : Option Mem :=
  match a.spot, σ.get a.block with
  | none, some (.row cs T fr) =>
    if a.off + vs.length ≤ cs.length && stored fr a.off vs.length && vs.all oneCell then some (σ.set a.block (.row (splice cs a.off vs) T fr)) else none
  | _, _ => none

def upd (j : J) (a : Nat) (im : Im) : J := fun x => if x = a then some im else j x
theorem upd_same (j : J) (a : Nat) (im : Im) : upd j a im a = some im := by simp [upd]
theorem upd_ne (j : J) {a x : Nat} (im : Im) (h : x ≠ a) : upd j a im x = j x := by simp [upd, h]
theorem le_upd {j : J} {σ : Mem} {w : World} (h : WR j σ w) (im : Im) : Le j (upd j σ.next im) := by
  intro a im' ha
  have := h.lt a im' ha
  rw [upd_ne _ _ (by omega)]; exact ha

theorem addr_add (a : Addr) (hs : a.spot = none) (n : Nat) : a.add n = { block := a.block, off := a.off + n, spot := none } := by
  cases a with
  | mk b o s =>
    simp only at hs; subst hs
    unfold Addr.add
    split
    · next h => subst h; rfl
    · rfl

section
variable {j : J} {σ : Mem} {w : World}

/-- a block is written over -/
theorem put_ok (h : WR j σ w) {a : Nat} {im : Im} (hj : j a = some im) {x0 x : Blk} (h0 : σ.get a = some x0) {o : Obj} (hb : BR j im.sz x o)
    {w' : World} (hw : w'.heap = w.heap.setIfInBounds im.b o) (hos : w'.os = w.os) (ht : w'.tape = w.tape) (ho : w'.output = w.output) :
    WR j (σ.set a x) w' ∧ Ext j σ w j (σ.set a x) w' := by
  have hsz : w'.heap.size = w.heap.size := by rw [hw]; simp
  have hblt := h.sz hj (by simp [h0])
  have hget : ∀ b, (σ.set a x).get b = if a = b then some x else σ.get b := fun b => σ.get_set a b x
  have hsome : ∀ b, ((σ.set a x).get b).isSome → (σ.get b).isSome := by
    intro b hb'
    rw [hget] at hb'
    by_cases e : a = b
    · subst e; simp [h0]
    · simpa [e] using hb'
  refine ⟨⟨fun b im' hb' => by have := h.lt b im' hb'; simpa using this, fun b b' im1 im2 h1 h2 he s1 s2 => h.inj b b' im1 im2 h1 h2 he (hsome _ s1) (hsome _ s2), ?_, fun g hg => h.glob g hg⟩, ?_⟩
  · intro b im' y hb' hy
    rw [hget] at hy
    by_cases e : a = b
    · subst e
      rw [hj] at hb'; cases hb'
      simp at hy; subst hy
      exact ⟨o, by rw [hw, Array.getElem?_setIfInBounds]; simp [hblt], hb⟩
    · simp [e] at hy
      obtain ⟨o', ho', hbr⟩ := h.blk b im' y hb' hy
      refine ⟨o', ?_, hbr⟩
      rw [hw, Array.getElem?_setIfInBounds]
      have hne : im.b ≠ im'.b := fun e' => e (h.inj a b im im' hj hb' e' (by simp [h0]) (by simp [hy]))
      rw [if_neg hne]; exact ho'
  · refine ⟨Le.refl j, Nat.le_refl _, rfl, hos, ht, ho, by omega, fun b hb' hn => ?_, fun b im' hb' hs _ => ⟨b, im', hb', rfl, hsome _ hs⟩, fun _ _ h => .inl h⟩
    rw [hw, Array.getElem?_setIfInBounds]
    have hne : im.b ≠ b := fun e => by rw [hn a im hj e] at h0; cases h0
    rw [if_neg hne]

/-- a new block -/
theorem new_ok (h : WR j σ w) {x : Blk} {o : Obj} {sz : Nat} (hb : BR (upd j σ.next ⟨w.heap.size, sz⟩) sz x o)
    {w' : World} (hw : w'.heap = w.heap.push o) (hos : w'.os = w.os) (ht : w'.tape = w.tape) (ho : w'.output = w.output) :
    WR (upd j σ.next ⟨w.heap.size, sz⟩) (σ.new x) w' ∧ Ext j σ w (upd j σ.next ⟨w.heap.size, sz⟩) (σ.new x) w' := by
  have hsz : w'.heap.size = w.heap.size + 1 := by rw [hw]; simp
  have hle := le_upd h ⟨w.heap.size, sz⟩
  have hget : ∀ b, (σ.new x).get b = if σ.next = b then some x else σ.get b := fun b => σ.get_new b x
  have hold : ∀ a im, upd j σ.next ⟨w.heap.size, sz⟩ a = some im → a ≠ σ.next → j a = some im ∧ ((σ.get a).isSome → im.b < w.heap.size) := by
    intro a im ha hne
    rw [upd_ne _ _ hne] at ha
    exact ⟨ha, h.sz ha⟩
  have hnew : ∀ a im, upd j σ.next ⟨w.heap.size, sz⟩ a = some im → a = σ.next → im = ⟨w.heap.size, sz⟩ := by
    intro a im ha he
    subst he; rw [upd_same] at ha; cases ha; rfl
  refine ⟨⟨?_, ?_, ?_, ?_⟩, ?_⟩
  · intro a im ha
    by_cases e : a = σ.next
    · simp; omega
    · have h1 := hold a im ha e; have h2 := h.lt a im h1.1; simp; omega
  · intro a a' im im' ha ha' he hs hs'
    by_cases e : a = σ.next <;> by_cases e' : a' = σ.next
    · omega
    · have h1 := hnew a im ha e; have h2 := (hold a' im' ha' e').2 (by rwa [hget, if_neg (Ne.symm e')] at hs'); subst h1; simp at he; omega
    · have h1 := hnew a' im' ha' e'; have h2 := (hold a im ha e).2 (by rwa [hget, if_neg (Ne.symm e)] at hs); subst h1; simp at he; omega
    · have h1 := hold a im ha e; have h2 := hold a' im' ha' e'
      rw [hget, if_neg (Ne.symm e)] at hs
      rw [hget, if_neg (Ne.symm e')] at hs'
      exact h.inj a a' im im' h1.1 h2.1 he hs hs'
  · intro a im y ha hy
    by_cases e : a = σ.next
    · have h1 := hnew a im ha e; subst h1; subst e
      rw [hget, if_pos rfl] at hy; cases hy
      exact ⟨o, by rw [hw]; simp, hb⟩
    · have h1 := hold a im ha e
      rw [hget, if_neg (Ne.symm e)] at hy
      obtain ⟨o', ho', hbr⟩ := h.blk a im y h1.1 hy
      refine ⟨o', ?_, hbr.mono hle⟩
      have := h1.2 (by simp [hy])
      rw [hw, Array.getElem?_push, if_neg (by omega)]; exact ho'
  · intro g hg
    obtain ⟨im, h1, h2⟩ := h.glob g hg
    exact ⟨im, hle _ _ h1, h2⟩
  · refine ⟨hle, by simp, rfl, hos, ht, ho, by omega, fun b hb' _ => ?_, fun a im ha hs hlt => ?_, fun a im ha => ?_⟩
    · rw [hw, Array.getElem?_push, if_neg (by omega)]
    · by_cases e : a = σ.next
      · have h1 := hnew a im ha e; subst h1; simp at hlt
      · have h1 := hold a im ha e
        rw [hget, if_neg (Ne.symm e)] at hs
        exact ⟨a, im, h1.1, rfl, hs⟩
    · by_cases e : a = σ.next
      · exact .inr (by omega)
      · exact .inl (hold a im ha e).1

/-- what a row of cells says of the model's block -/
theorem row_of (h : WR j σ w) {a : Nat} {im : Im} (hj : j a = some im) {cs : List Value} {T : TypeId} {fr : Nat × Nat} (hg : σ.get a = some (.row cs T fr)) :
    ∃ c fr', w.heap[im.b]? = some (.cells c T fr') ∧ c.size = im.sz ∧ FrR im.sz fr fr' ∧ cs.length ≤ im.sz ∧ VRs j cs (c.toList.take cs.length) := by
  obtain ⟨o, ho, hb⟩ := h.blk a im _ hj hg
  cases hb with
  | row _ _ _ fr' c hs hf hl hv => exact ⟨c, fr', ho, hs, hf, hl, hv⟩

theorem cell_of {cs l : List Value} (hv : VRs j cs (l.take cs.length)) {i : Nat} {v : Value} (hi : cs[i]? = some v) : ∃ v', l[i]? = some v' ∧ VR j v v' := by
  obtain ⟨v', h1, h2⟩ := hv.get hi
  refine ⟨v', ?_, h2⟩
  rw [List.getElem?_take] at h1
  split at h1
  · exact h1
  · cases h1

theorem load_ok (h : WR j σ w) {a : Addr} {im : Im} (hj : j a.block = some im) {v : Value} (hl : aload σ a = some v) :
    ∃ v', w.cell? { a with block := im.b } = some v' ∧ VR j v v' := by
  unfold aload at hl
  split at hl
  · rename_i cs T fr hs hg
    obtain ⟨c, fr', hw, _, _, _, hv⟩ := row_of h hj hg
    obtain ⟨v', h1, h2⟩ := cell_of hv hl
    refine ⟨v', ?_, h2⟩
    simp only [World.cell?, hw, hs]
    simpa using h1
  · cases hl

theorem run_loadCellsFrom (P : Program) (w : World) (a : Addr) : ∀ (vs : List Value) (i : Nat) (acc : Array Value), (∀ k v, vs[k]? = some v → w.cell? (a.add (i + k)) = some v) →
    (loadCellsFrom a i vs.length acc).run P w = .ok (acc ++ vs.toArray) w
  | [], i, acc, _ => by simp [loadCellsFrom, pure, Sem.run]
  | v :: vs, i, acc, h => by
    have h0 := h 0 v rfl
    simp only [Nat.add_zero] at h0
    have ih := run_loadCellsFrom P w a vs (i + 1) (acc.push v) fun k u hu => by
      have := h (k + 1) u (by simpa using hu)
      rw [show i + 1 + k = i + (k + 1) by omega]; exact this
    simp only [List.length_cons, loadCellsFrom, bind, load, Sem.bind, Sem.run, h0]
    rw [ih]
    simp

theorem loads_all (P : Program) (h : WR j σ w) {a : Addr} {im : Im} (hj : j a.block = some im) {n : Nat} {vs : List Value} (hl : aloads σ a n = some vs) :
    ∃ vs' : List Value, (∀ w2 : World, w2.heap = w.heap → (loadCells { a with block := im.b } n).run P w2 = .ok vs'.toArray w2) ∧ VRs j vs vs' ∧ vs'.length = n := by
  unfold aloads at hl
  split at hl
  · rename_i cs T fr hs hg
    split at hl
    · rename_i hle
      cases hl
      obtain ⟨c, fr', hw, hsz, _, hcl, hv⟩ := row_of h hj hg
      refine ⟨(c.toList.drop a.off).take n, ?_, ?_, by simp; omega⟩
      · intro w2 hw2
        have := run_loadCellsFrom P w2 { a with block := im.b } ((c.toList.drop a.off).take n) 0 #[] (by
          intro k v hk
          rw [List.getElem?_take] at hk
          split at hk
          · rw [Nat.zero_add, addr_add { a with block := im.b } hs]
            simp only [World.cell?, hw2, hw]
            simpa using hk
          · cases hk)
        have hlen : ((c.toList.drop a.off).take n).length = n := by simp; omega
        rw [hlen] at this
        simpa [loadCells] using this
      · have h1 := (hv.drop a.off).take n
        have e : ((c.toList.take cs.length).drop a.off).take n = (c.toList.drop a.off).take n := by
          rw [List.drop_take, List.take_take]
          congr 1; omega
        rw [e] at h1; exact h1
    · cases hl
  · cases hl
theorem loads_ok (P : Program) (h : WR j σ w) {a : Addr} {im : Im} (hj : j a.block = some im) {n : Nat} {vs : List Value} (hl : aloads σ a n = some vs) :
    ∃ vs' : List Value, (loadCells { a with block := im.b } n).run P w = .ok vs'.toArray w ∧ VRs j vs vs' ∧ vs'.length = n := by
  obtain ⟨vs', h1, h2⟩ := loads_all P h hj hl
  exact ⟨vs', h1 w rfl, h2⟩

theorem stored_spec {fr fr' : Nat × Nat} {off n sz len : Nat} (hs : stored fr off n = true) (hf : FrR sz fr fr') (hle : off + n ≤ len) (hl : len ≤ sz) :
    ∀ k, k < n → frz fr' (off + k) = false := by
  intro k hk
  unfold FrR at hf
  unfold stored at hs
  split at hf
  · subst hf; simp [frz]; omega
  · subst hf
    rename_i hne
    simp only [Bool.or_eq_true, beq_iff_eq, List.all_eq_true, List.mem_range, Bool.not_eq_true', Bool.and_eq_true] at hs
    rcases hs with (hs | hs) | hs
    · simp [frz, hs]
    · exact absurd (Prod.ext hs.1 hs.2) hne
    · exact hs k hk

theorem setCell_heap (w : World) (b off : Nat) (v : Value) {c : Array Value} {T : TypeId} {fr : Nat × Nat} (hw : w.heap[b]? = some (.cells c T fr)) :
    (w.setCell ⟨b, off, none⟩ v).heap = w.heap.setIfInBounds b (.cells (c.setIfInBounds off v) T fr) := by
  apply Array.ext_getElem?
  intro i
  simp only [World.setCell, Array.getElem?_modify, Array.getElem?_setIfInBounds]
  by_cases e : b = i
  · subst e
    have hlt : b < w.heap.size := by
      rcases Nat.lt_or_ge b w.heap.size with h | h
      · exact h
      · simp [Array.getElem?_eq_none h] at hw
    rw [if_pos rfl, hw]
    simp [hlt]
  · simp [e]

theorem run_storeCells (P : Program) (b : Nat) (T : TypeId) (fr : Nat × Nat) : ∀ (vs : List Value) (off i : Nat) (w : World) (c : Array Value),
    w.heap[b]? = some (.cells c T fr) → (∀ v ∈ vs, oneCell v = true) → off + i + vs.length ≤ c.size → (∀ k, k < vs.length → frz fr (off + i + k) = false) →
    ∃ w', (storeCells ⟨b, off, none⟩ vs i).run P w = .ok () w' ∧ w'.heap = w.heap.setIfInBounds b (.cells (splice c.toList (off + i) vs).toArray T fr) ∧ w'.os = w.os ∧ w'.tape = w.tape ∧ w'.output = w.output
  | [], off, i, w, c, hw, _, _, _ => by
    refine ⟨w, by simp [storeCells, pure, Sem.run], ?_, rfl, rfl, rfl⟩
    apply Array.ext_getElem?
    intro k
    rw [Array.getElem?_setIfInBounds]
    by_cases e : b = k
    · subst e
      rw [if_pos rfl]
      split
      · rw [hw]; simp [splice]
      · rw [Array.getElem?_eq_none (by omega)]
    · rw [if_neg e]
  | v :: vs, off, i, w, c, hw, h1, hb, hf => by
    simp only [List.length_cons] at hb
    have hblt : b < w.heap.size := by
      rcases Nat.lt_or_ge b w.heap.size with h | h
      · exact h
      · simp [Array.getElem?_eq_none h] at hw
    have hfz := hf 0 (by simp)
    have hcell : w.cell? ⟨b, off + i, none⟩ = some c[off + i] := by
      simp only [World.cell?, hw]
      simp
    have hfrz : w.frozen? ⟨b, off + i, none⟩ = false := by
      simp only [World.frozen?, hw]; simpa [frz] using hfz
    have hsh := setCell_heap w b (off + i) v hw
    have hw1 : (w.setCell ⟨b, off + i, none⟩ v).heap[b]? = some (.cells (c.setIfInBounds (off + i) v) T fr) := by
      rw [hsh, Array.getElem?_setIfInBounds]; simp [hblt]
    obtain ⟨w', hr, hh, ho, ht, hou⟩ := run_storeCells P b T fr vs off (i + 1) (w.setCell ⟨b, off + i, none⟩ v) (c.setIfInBounds (off + i) v) hw1
      (fun u hu => h1 u (by simp [hu])) (by simp; omega) (fun k hk => by have := hf (k + 1) (by simp; omega); rwa [show off + (i + 1) + k = off + i + (k + 1) by omega])
    refine ⟨w', ?_, ?_, ho, ht, hou⟩
    · have hv := h1 v (by simp)
      rw [storeCells]
      simp only [bind, store, Sem.bind]
      rw [addr_add _ rfl]
      cases v <;> simp only [oneCell, Bool.false_eq_true] at hv <;> simp only [Sem.run, hcell, hfrz, Bool.false_eq_true, if_false] <;> exact hr
    · rw [hh, hsh]
      apply Array.ext_getElem?
      intro k
      simp only [Array.getElem?_setIfInBounds, Array.size_setIfInBounds]
      by_cases e : b = k
      · subst e; simp [hblt, splice, Nat.add_assoc]
      · simp [e]

theorem splice_length : ∀ (vs cs : List Value) (off : Nat), (splice cs off vs).length = cs.length
  | [], _, _ => rfl
  | _ :: vs, cs, off => by simp [splice, splice_length vs]
theorem splice_vrs {j : J} : ∀ {vs vs' cs cs' : List Value} {off : Nat}, VRs j vs vs' → VRs j cs cs' → VRs j (splice cs off vs) (splice cs' off vs')
  | _, _, _, _, _, .nil, h => h
  | _, _, _, _, off, .cons v v' l l' hv t, h => by
    have := splice_vrs (off := off + 1) t (h.set off hv)
    exact this
theorem splice_take : ∀ (vs cs : List Value) (off n : Nat), off + vs.length ≤ n → (splice cs off vs).take n = splice (cs.take n) off vs
  | [], _, _, _, _ => rfl
  | v :: vs, cs, off, n, h => by
    simp only [List.length_cons] at h
    simp only [splice]
    rw [splice_take vs _ _ n (by omega), List.take_set]

/-- stores of plain cells -/
theorem stores_ok (P : Program) (h : WR j σ w) {a : Addr} {im : Im} (hj : j a.block = some im) {vs vs' : List Value} {σ' : Mem} (hs : astores σ a vs = some σ') (hv : VRs j vs vs') :
    ∃ w', (storeCells { a with block := im.b } vs').run P w = .ok () w' ∧ WR j σ' w' ∧ Ext j σ w j σ' w' := by
  unfold astores at hs
  split at hs
  · rename_i cs T fr hsp hg
    split at hs
    · rename_i hc
      cases hs
      simp only [Bool.and_eq_true, decide_eq_true_eq, List.all_eq_true] at hc
      obtain ⟨⟨hle, hst⟩, hone⟩ := hc
      obtain ⟨c, fr', hw, hsz, hfr, hcl, hcv⟩ := row_of h hj hg
      have hlen := hv.length
      have hone' : ∀ v ∈ vs', oneCell v = true := by
        intro v' hm
        obtain ⟨i, hi⟩ := List.getElem?_of_mem hm
        have hi' : i < vs.length := by
          rw [hlen]; rcases Nat.lt_or_ge i vs'.length with h | h
          · exact h
          · simp [List.getElem?_eq_none h] at hi
        obtain ⟨u, hu1, hu2⟩ := hv.get (List.getElem?_eq_getElem hi')
        rw [hi] at hu1; cases hu1
        rw [oneCell_vr hu2]
        exact hone _ (List.getElem_mem hi')
      obtain ⟨w', hr, hh, ho, ht, hou⟩ := run_storeCells P im.b T fr' vs' a.off 0 w c hw hone' (by simp; omega)
        (fun k hk => by have := stored_spec hst hfr hle hcl k (by omega); simpa using this)
      have hput := put_ok h hj hg (x := .row (splice cs a.off vs) T fr) (o := .cells (splice c.toList (a.off + 0) vs').toArray T fr')
        (.row _ _ _ _ _ (by simp [splice_length, hsz]) hfr (by rw [splice_length]; exact hcl) (by
          rw [splice_length]
          simp only [Nat.add_zero]
          rw [splice_take _ _ _ _ (by omega)]
          exact splice_vrs hv hcv)) hh ho ht hou
      refine ⟨w', ?_, hput⟩
      cases a with
      | mk b o s =>
        simp only at hsp; subst hsp
        exact hr
    · cases hs
  · cases hs

/-- a new row -/
theorem newRow_ok (P : Program) (h : WR j σ w) {vs vs' : List Value} (hv : VRs j vs vs') (T : TypeId) :
    (newRow T vs'.toArray).run P w = .ok ⟨w.heap.size, 0, none⟩ { w with heap := w.heap.push (.cells vs'.toArray T (0, 0)) } ∧
      WR (upd j σ.next ⟨w.heap.size, vs.length⟩) (σ.new (.row vs T (0, 0))) { w with heap := w.heap.push (.cells vs'.toArray T (0, 0)) } ∧
      Ext j σ w (upd j σ.next ⟨w.heap.size, vs.length⟩) (σ.new (.row vs T (0, 0))) { w with heap := w.heap.push (.cells vs'.toArray T (0, 0)) } := by
  refine ⟨by simp [newRow, newObj, bind, Sem.bind, Sem.run, pure], new_ok h (o := .cells vs'.toArray T (0, 0)) (.row _ _ _ _ _ (by simp [hv.length]) (by simp [FrR, BIG]) (Nat.le_refl _) ?_) rfl rfl rfl rfl⟩
  have : vs'.toArray.toList.take vs.length = vs' := by rw [hv.length]; simp
  rw [this]
  exact hv.mono (le_upd h _)
end
end Go.Ab
