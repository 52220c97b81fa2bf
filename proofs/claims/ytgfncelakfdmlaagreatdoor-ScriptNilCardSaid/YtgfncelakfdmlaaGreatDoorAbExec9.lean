import Derived.Test.YtgfncelakfdmlaaGreatDoorAbExec8
/-! Maps with keys that are integers, strings or bools. -/
namespace Go.Ab
open Go

def keyKind : Option TypeDesc → Option TypeDesc
  | some (.int k) => some (.int k)
  | some .string => some .string
  | some .bool => some .bool
  | _ => none
def plainV : Value → Bool
  | .agg cs => cs.toList.all plain
  | v => plain v
def xMakeMap (P : Program) (σ : Mem) (t : TypeId) (r : Option Value) : Option (Value × Mem) :=
  match P.underlying t, r with
  | some (.map _ _), none | some (.map _ _), some (.int _ _) => some (.map (some σ.next), σ.new (.map [] 0))
  | _, _ => none
def xEntries (σ : Mem) : Value → Option (List MapEntry × Nat)
  | .map none => some ([], 0)
  | .map (some r) => (match σ.get r with
    | some (.map es c) => some (es, c)
    | _ => none)
  | _ => none
def xLookup (P : Program) (σ : Mem) (t : TypeId) (x k : Value) (ok : Bool) : Option Value :=
  match P.underlying t with
  | some (.map kt et) => (match keyKind (P.underlying kt), xEntries σ x with
    | some kd, some (es, _) => (match Instr.findNow kd k es 0 with
      | some (some (_, v)) => some (if ok then .tuple #[v, .bool true] else v)
      | some none => (match P.info? et with
        | some i => (match i.zero with
          | some z => if plainV z then some (if ok then .tuple #[z, .bool false] else z) else none
          | none => none)
        | none => none)
      | none => none)
    | _, _ => none)
  | _ => none
def setEntry (k v : Value) : List MapEntry → Nat → List MapEntry
  | [], _ => []
  | e :: es, 0 => { e with key := k, val := v } :: es
  | e :: es, i + 1 => e :: setEntry k v es i
def fitsKey : TypeDesc → Value → Bool
  | .int _, .int _ _ | .string, .string _ | .bool, .bool _ => true
  | _, _ => false
def xMapUpdate (P : Program) (σ : Mem) (t : TypeId) (x k v : Value) : Option Mem :=
  match P.underlying t, x with
  | some (.map kt _), .map (some r) => (match keyKind (P.underlying kt), σ.get r with
    | some kd, some (.map es c) => (match Instr.findNow kd k es 0 with
      | some (some (i, _)) => some (σ.set r (.map (setEntry k v es i) c))
      | some none => if fitsKey kd k then some (σ.set r (.map (es ++ [{ key := k, val := v, born := c }]) (c + 1))) else none
      | none => none)
    | _, _ => none)
  | _, _ => none


section
variable {P : Program} {j : J} {σ : Mem} {w : World}

theorem VR.of_plainV {v : Value} (h : plainV v = true) : VR j v v := by
  cases v with
  | agg cs => exact .agg _ _ (VRs.of_plain h)
  | _ => exact VR.of_plain h
theorem keyKind_some {o : Option TypeDesc} {kd : TypeDesc} (h : keyKind o = some kd) : o = some kd := by
  unfold keyKind at h; split at h <;> cases h <;> rfl
theorem checkKey_run {kt : TypeId} {kd : TypeDesc} (h : keyKind (P.underlying kt) = some kd) (e : Bool) (n : Nat) (v : Value) (w : World) : (Instr.checkKey e (n + 1) kt v).run P w = .ok () w := by
  have hd := keyKind_some h
  rw [hd] at h
  cases kd <;> simp only [keyKind] at h <;> (try (cases h; done)) <;> simp [Instr.checkKey, run_underlying hd]
theorem sameNow_vr {kd : TypeDesc} {k e k' e' : Value} {b : Bool} (h : Instr.sameNow kd k e = some b) (hk : VR j k k') (he : VR j e e') : Instr.sameNow kd k' e' = some b := by
  unfold Instr.sameNow at h
  split at h
  · obtain rfl := hk.int_inv; obtain rfl := he.int_inv; simpa [Instr.sameNow] using h
  · obtain rfl := hk.string_inv; obtain rfl := he.string_inv; simpa [Instr.sameNow] using h
  · obtain rfl := hk.bool_inv; obtain rfl := he.bool_inv; simpa [Instr.sameNow] using h
  · cases h
theorem findNow_vr {kd : TypeDesc} {k k' : Value} (hk : VR j k k') : ∀ {es es' : List MapEntry} {i : Nat} {r : Option (Nat × Value)}, MRs j es es' → Instr.findNow kd k es i = some r →
    (r = none ∧ Instr.findNow kd k' es' i = some none) ∨ ∃ n v v', r = some (n, v) ∧ Instr.findNow kd k' es' i = some (some (n, v')) ∧ VR j v v' ∧ i ≤ n ∧ ∃ e, es'[n - i]? = some e ∧ Instr.sameNow kd k' e.key = some true
  | [], _, i, r, .nil, h => by simp only [Instr.findNow] at h; cases h; exact .inl ⟨rfl, rfl⟩
  | e :: es, _, i, r, .cons _ e' _ es' h1 h2 h3 t, h => by
    simp only [Instr.findNow] at h ⊢
    split at h
    · rename_i hs
      cases h
      have hs' := sameNow_vr hs hk h1
      exact .inr ⟨i, e.val, e'.val, rfl, by rw [hs'], h2, Nat.le_refl _, e', by simp, hs'⟩
    · rename_i hs
      rw [sameNow_vr hs hk h1]
      rcases findNow_vr hk t h with h | ⟨n, v, v', g1, g2, g3, g4, e0, g5, g6⟩
      · exact .inl h
      · refine .inr ⟨n, v, v', g1, g2, g3, by omega, e0, ?_, g6⟩
        have : n - i = (n - (i + 1)) + 1 := by omega
        rw [this]; simpa using g5
    · cases h
theorem getMap_run {r : Nat} {es : Array MapEntry} {c : Nat} (h : w.heap[r]? = some (.map es c)) : (getObj r).run P w = .ok (.map es c) w := by simp [getObj, Sem.run, h]

theorem xMakeMap_ok (h : WR j σ w) {t : TypeId} {r r' : Option Value} (hr : OR j r r') {x : Value × Mem} (hl : xMakeMap P σ t r = some x) : Yields P j σ w (Instr.makeMap t r') x.1 x.2 := by
  have hnew := new_ok h (x := .map [] 0) (o := .map #[] 0) (sz := 0) (w' := { w with heap := w.heap.push (.map #[] 0) }) (.map _ _ _ .nil) rfl rfl rfl rfl
  unfold xMakeMap at hl
  split at hl
  · rename_i hd
    cases hl
    cases hr
    exact ⟨_, _, .map (some w.heap.size), by simp [Instr.makeMap, newObj, Sem.run], hnew.1, hnew.2, .map σ.next ⟨w.heap.size, 0⟩ (upd_same _ _ _)⟩
  · rename_i hd
    cases hl
    cases hr with
    | some _ v' hv =>
      obtain rfl := hv.int_inv
      exact ⟨_, _, .map (some w.heap.size), by simp [Instr.makeMap, newObj, Sem.run, run_underlying hd, asInt, asIntOf], hnew.1, hnew.2, .map σ.next ⟨w.heap.size, 0⟩ (upd_same _ _ _)⟩
  · cases hl

def lookRest (kt et : TypeId) (es : Array MapEntry) (k : Value) (ok : Bool) : Sem Value := do
  Instr.checkKey es.isEmpty 10000 kt k
  let (v, ok') ← match ← Instr.findKey kt k es.toList with
    | some (_, v) => pure (v, true)
    | none => pure (← zeroValue et, false)
  pure (if ok then .tuple #[v, .bool ok'] else v)
theorem xLookup_ok (h : WR j σ w) {t : TypeId} {x x' k k' v : Value} {ok : Bool} (hx : VR j x x') (hk : VR j k k') (hl : xLookup P σ t x k ok = some v) : Yields P j σ w (Instr.lookup t x' k' ok) v σ := by
  unfold xLookup at hl
  split at hl
  case h_2 => cases hl
  rename_i kt et hd
  split at hl
  case h_2 => cases hl
  rename_i kd es c hkd hes
  have hkt := keyKind_some hkd
  -- the entries
  have hents : ∃ es' : Array MapEntry, MRs j es es'.toList ∧ (Instr.lookup t x' k' ok).run P w = (lookRest kt et es' k' ok).run P w := by
    unfold xEntries at hes
    split at hes
    · cases hes; cases hx
      exact ⟨#[], .nil, by simp only [Instr.lookup, lookRest, Sem.run_bind, run_underlying hd, Result.andThen_ok]; rfl⟩
    · rename_i r
      split at hes
      · rename_i es1 c1 hg
        cases hes
        cases hx with
        | map _ im hj =>
          obtain ⟨es', g1, g2⟩ := map_of h hj hg
          exact ⟨es', g2, by simp only [Instr.lookup, lookRest, Sem.run_bind, run_underlying hd, Result.andThen_ok, getMap_run g1]; rfl⟩
      · cases hes
    · cases hes
  obtain ⟨es', hm, hrun⟩ := hents
  have hck : ∀ e, (Instr.checkKey e 10000 kt k').run P w = .ok () w := fun e => checkKey_run hkd e 9999 k' w
  split at hl
  · rename_i n u hf
    rcases findNow_vr hk hm hf with ⟨h1, _⟩ | ⟨n', v1, v1', g1, g2, g3, _⟩
    · cases h1
    · simp only [Option.some.injEq, Prod.mk.injEq] at g1
      obtain ⟨rfl, rfl⟩ := g1
      cases hl
      have : (Instr.lookup t x' k' ok).run P w = .ok (if ok then .tuple #[v1', .bool true] else v1') w := by
        rw [hrun]
        simp only [lookRest, Result.andThen_ok, hck, Instr.findKey, Sem.run_bind, run_underlying hkt, g2, Sem.run_pure]
      cases ok
      · exact Yields.same h this g3
      · exact Yields.same h this (VR.pair g3 (.bool true))
  · rename_i hf
    rcases findNow_vr hk hm hf with ⟨_, g2⟩ | ⟨n', v1, v1', g1, _⟩
    · split at hl
      · rename_i i hi
        split at hl
        · rename_i z hz
          split at hl
          · rename_i hp
            cases hl
            have : (Instr.lookup t x' k' ok).run P w = .ok (if ok then .tuple #[z, .bool false] else z) w := by
              rw [hrun]
              simp only [lookRest, Result.andThen_ok, hck, Instr.findKey, Sem.run_bind, run_underlying hkt, g2, Sem.run_pure, zero_run hi hz]
            cases ok
            · exact Yields.same h this (VR.of_plainV hp)
            · exact Yields.same h this (VR.pair (VR.of_plainV hp) (.bool false))
          · cases hl
        · cases hl
      · cases hl
    · cases g1
  · cases hl

theorem MRs.append {j : J} : ∀ {a a' b b' : List MapEntry}, MRs j a a' → MRs j b b' → MRs j (a ++ b) (a' ++ b')
  | _, _, _, _, .nil, h => h
  | _, _, _, _, .cons e e' l l' hk hv hb t, h => .cons _ _ _ _ hk hv hb (MRs.append t h)
theorem MRs.setEntry {k v k' v' : Value} (hk : VR j k k') (hv : VR j v v') : ∀ {es es' : List MapEntry} (i : Nat), MRs j es es' → MRs j (Ab.setEntry k v es i) (es'.modify i fun e => { e with key := k', val := v' })
  | [], _, i, .nil => by cases i <;> exact .nil
  | e :: es, _, 0, .cons _ e' _ es' h1 h2 h3 t => by
    simp only [Ab.setEntry, List.modify_zero_cons]
    exact .cons _ _ _ _ hk hv h3 t
  | e :: es, _, i + 1, .cons _ e' _ es' h1 h2 h3 t => by
    simp only [Ab.setEntry, List.modify_succ_cons]
    exact .cons _ _ _ _ h1 h2 h3 (MRs.setEntry hk hv i t)
theorem sameBits_of {kd : TypeDesc} {k e : Value} (h : Instr.sameNow kd k e = some true) (n : Nat) : Instr.sameBits (n + 1) e k = true := by
  unfold Instr.sameNow at h
  split at h
  · split at h
    · rename_i hk
      simp only [Option.some.injEq, beq_iff_eq] at h
      simp [Instr.sameBits, h, hk]
    · cases h
  · rename_i a b
    simp only [Option.some.injEq] at h
    rw [beq_toListBytes] at h
    simp only [Instr.sameBits]
    rw [beq_toListBytes]
    simp only [beq_iff_eq] at h ⊢
    exact h.symm
  · simp only [Option.some.injEq, beq_iff_eq] at h
    simp [Instr.sameBits, h]
  · cases h

theorem xMapUpdate_ok (h : WR j σ w) {t : TypeId} {x x' k k' v v' : Value} (hx : VR j x x') (hk : VR j k k') (hv : VR j v v') {σ' : Mem} (hl : xMapUpdate P σ t x k v = some σ') :
    ∃ w', (Instr.mapUpdate t x' k' v').run P w = .ok () w' ∧ WR j σ' w' ∧ Ext j σ w j σ' w' := by
  unfold xMapUpdate at hl
  split at hl
  case h_2 => cases hl
  rename_i kt et r hd
  split at hl
  case h_2 => cases hl
  rename_i kd es c hkd hg
  have hkt := keyKind_some hkd
  have hck : ∀ e, (Instr.checkKey e 10000 kt k').run P w = .ok () w := fun e => checkKey_run hkd e 9999 k' w
  cases hx with
  | map _ im hj =>
    obtain ⟨es', g1, g2⟩ := map_of h hj hg
    have hlt := h.sz hj (by simp [hg])
    have hset : ∀ es2 c2, (setObj im.b (.map es2 c2)).run P w = .ok () { w with heap := w.heap.setIfInBounds im.b (.map es2 c2) } := by
      intro es2 c2; simp [setObj, Sem.run, g1]
    split at hl
    · rename_i n u hf
      rcases findNow_vr hk g2 hf with ⟨h1, _⟩ | ⟨n', v1, v1', q1, q2, q3, q4, e0, q5, q6⟩
      · cases h1
      · simp only [Option.some.injEq, Prod.mk.injEq] at q1
        obtain ⟨rfl, rfl⟩ := q1
        cases hl
        have hkey : ((es'[n]?).map (·.key)).getD k' = e0.key := by
          simp at q5; simp [q5]
        refine ⟨{ w with heap := w.heap.setIfInBounds im.b (.map (es'.modify n fun e => { e with key := k', val := v' }) c) }, ?_, ?_⟩
        · simp only [Instr.mapUpdate, Sem.run_bind, run_underlying hd, Result.andThen_ok, getMap_run g1, hck, Instr.findKey, run_underlying hkt, q2, Sem.run_pure, Instr.keyThatStays, hkey, sameBits_of q6 9999, if_true, hset]
        · exact put_ok h hj hg (.map _ _ _ (by simpa using MRs.setEntry hk hv n g2)) rfl rfl rfl rfl
    · rename_i hf
      split at hl
      · cases hl
        rcases findNow_vr hk g2 hf with ⟨_, q2⟩ | ⟨n', v1, v1', q1, _⟩
        · refine ⟨{ w with heap := w.heap.setIfInBounds im.b (.map (es'.push { key := k', val := v', born := c }) (c + 1)) }, ?_, ?_⟩
          · simp only [Instr.mapUpdate, Sem.run_bind, run_underlying hd, Result.andThen_ok, getMap_run g1, hck, Instr.findKey, run_underlying hkt, q2, Sem.run_pure, hset]
          · exact put_ok h hj hg (.map _ _ _ (by
            have := g2.append (MRs.cons { key := k, val := v, born := c } { key := k', val := v', born := c } [] [] hk hv rfl .nil)
            simpa using this)) rfl rfl rfl rfl
        · cases q1
      · cases hl
    · cases hl
end
end Go.Ab
