import Derived.Test.YtgfncelakfdmlaaGreatDoorAbSoft2
/-! A region that draws its order: the text's order serves every order, if the checks pass. -/
namespace Go.Ab
open Go

/-! ### an operation looks at its operands alone -/
section
variable {P : Program} {X : AExt}
theorem aevs_congr {a a' : Tm} {σ : Mem} : ∀ {l : List Operand}, (∀ x ∈ l, aev a σ x = aev a' σ x) → aevs a σ l = aevs a' σ l
  | [], _ => rfl
  | x :: l, h => by
    simp only [aevs]
    rw [h x (by simp), aevs_congr (fun y hy => h y (by simp [hy]))]
theorem aevp_congr {a a' : Tm} {σ : Mem} : ∀ {l : List (Nat × Operand)}, (∀ x ∈ l.map (·.2), aev a σ x = aev a' σ x) → aevp a σ l = aevp a' σ l
  | [], _ => rfl
  | (i, x) :: l, h => by
    simp only [aevp]
    rw [h x (by simp), aevp_congr (fun y hy => h y (by simp at hy ⊢; exact .inr hy))]
theorem aevo_congr {a a' : Tm} {σ : Mem} {o : Option Operand} (h : ∀ x ∈ o.toList, aev a σ x = aev a' σ x) : aevo a σ o = aevo a' σ o := by
  cases o with
  | none => rfl
  | some x => simp only [aevo]; rw [h x (by simp)]
theorem aexec_congr {a a' : Tm} {σ : Mem} {o : Oper} (h : ∀ x ∈ o.op.operands, aev a σ x = aev a' σ x) : aexec P X a σ o = aexec P X a' σ o := by
  obtain ⟨dst, op, type, pos, after, guard⟩ := o
  simp only at h
  cases op <;> simp only [aexec] <;> simp only [Op.operands, List.mem_toArray, List.mem_cons, List.not_mem_nil, or_false, forall_eq_or_imp, forall_eq] at h
  case move => rw [h]
  case assign => rw [h]
  case pick => rw [h.1, h.2.1, h.2.2]
  case box => rw [h]
  case build t ps => rw [aevp_congr (a := a) (a' := a') (by simpa using h)]
  case buildSlice t n ps => rw [aevp_congr (a := a) (a' := a') (by simpa using h)]
  case load => rw [h]
  case store => rw [h.1, h.2]
  case nilCheck => rw [h]
  case binOp => rw [h.1, h.2]
  case unOp => rw [h]
  case convert => rw [h]
  case makeInterface => rw [h]
  case makeFunc fn f cc =>
    rw [aevs_congr (a := a) (a' := a') (l := f.toList) (fun x hx => h x (by simp at hx ⊢; exact .inl hx)), aevs_congr (a := a) (a' := a') (l := cc.toList) (fun x hx => h x (by simp at hx ⊢; exact .inr hx))]
  case makeSlice => rw [h.1, h.2]
  case slice t x lo hi mx =>
    have hx : aev a σ x = aev a' σ x := h x (by simp)
    rw [hx, aevo_congr (a := a) (a' := a') (o := lo) (fun y hy => h y (by simp at hy ⊢; exact .inr (.inl hy))), aevo_congr (a := a) (a' := a') (o := hi) (fun y hy => h y (by simp at hy ⊢; exact .inr (.inr (.inl hy)))),
      aevo_congr (a := a) (a' := a') (o := mx) (fun y hy => h y (by simp at hy ⊢; exact .inr (.inr (.inr hy))))]
  case fieldAddr => rw [h]
  case field => rw [h]
  case indexAddr => rw [h.1, h.2]
  case index => rw [h.1, h.2]
  case typeAssert => rw [h]
  case extract => rw [h]
  case makeMap t r => rw [aevo_congr (a := a) (a' := a') (by simpa using h)]
  case lookup => rw [h.1, h.2]
  case mapUpdate => rw [h.1, h.2.1, h.2.2]
  case panic => rw [h]
  case call c =>
    have hargs : aevs a σ c.args.toList = aevs a' σ c.args.toList := aevs_congr fun x hx => h x (by simp [Call.operands] at hx ⊢; exact .inr hx)
    rw [hargs]
    cases hc : c.callee with
    | builtin b => rfl
    | value f => simp only [h f (by simp [Call.operands, hc])]
    | invoke r m => simp only [h r (by simp [Call.operands, hc])]
  case defer c =>
    have hargs : aevs a σ c.args.toList = aevs a' σ c.args.toList := aevs_congr fun x hx => h x (by simp [Call.operands] at hx ⊢; exact .inr hx)
    rw [hargs]
    cases aevs a' σ c.args.toList with
    | none => rfl
    | some args =>
      cases hc : c.callee with
      | builtin b => rfl
      | value f => simp only [h f (by simp [Call.operands, hc])]
      | invoke r m => rfl

theorem aev_get {a a' : Tm} {σ : Mem} {x : Operand} (h : ∀ t, x = .tmp t → a.get t = a'.get t) : aev a σ x = aev a' σ x := by
  cases x with
  | tmp t => simp only [aev]; rw [h t rfl]
  | _ => rfl
theorem aexec_looks {a a' : Tm} {σ : Mem} {ops : Array Oper} {o : Oper} (h : ∀ t ∈ o.looksAt ops, a.get t = a'.get t) : aexec P X a σ o = aexec P X a' σ o := by
  refine aexec_congr fun x hx => aev_get fun t ht => h t ?_
  subst ht
  simp only [Oper.looksAt, List.mem_append, List.mem_filterMap]
  exact .inl ⟨.tmp t, by simpa using hx, rfl⟩
theorem awanted_looks {a a' : Tm} {ops : Array Oper} {o : Oper} (hsz : a.sz = a'.sz) (h : ∀ t ∈ o.looksAt ops, a.get t = a'.get t) : awanted ops o a = awanted ops o a' := by
  unfold awanted Region.wanted
  cases hg : o.guard with
  | none => rfl
  | some g =>
    obtain ⟨k, b⟩ := g
    simp only
    have : ayield ops a k = ayield ops a' k := by
      unfold ayield
      cases hd : (ops[k]?).bind (·.dst) with
      | none => rfl
      | some d =>
        simp only [hsz]
        have : a.get d = a'.get d := h d (by
          simp only [Oper.looksAt, List.mem_append]
          right
          simp [hg, hd])
        rw [this]
    rw [this]
end

section
variable {P : Program}
theorem aev_G {a : Tm} {σ σ' : Mem} (h : σ.G = σ'.G) (x : Operand) : aev a σ x = aev a σ' x := by
  cases x <;> simp only [aev, h]
theorem aevp_G {a : Tm} {σ σ' : Mem} (h : σ.G = σ'.G) : ∀ l, aevp a σ l = aevp a σ' l
  | [] => rfl
  | (i, x) :: l => by simp only [aevp]; rw [aev_G h, aevp_G h l]
theorem asoft_G {a : Tm} {σ σ' : Mem} (h : σ.G = σ'.G) {id : Nat} {o : Oper} : asoft P a σ id o = asoft P a σ' id o := by
  obtain ⟨dst, op, type, pos, after, guard⟩ := o
  cases op <;> simp only [asoft, softRes] <;> simp only [aev_G h, aevp_G h]
theorem asoft_congr {a a' : Tm} {σ : Mem} {id : Nat} {o : Oper} (h : ∀ x ∈ o.op.operands, aev a σ x = aev a' σ x) : asoft P a σ id o = asoft P a' σ id o := by
  obtain ⟨dst, op, type, pos, after, guard⟩ := o
  simp only at h
  cases op <;> simp only [asoft, softRes] <;> simp only [Op.operands, List.mem_toArray, List.mem_cons, List.not_mem_nil, or_false, forall_eq_or_imp, forall_eq] at h
  case box => rw [h]
  case buildSlice t n ps => rw [aevp_congr (a := a) (a' := a') (by simpa using h)]
  case makeSlice => rw [h.1, h.2]
theorem asoft_looks {a a' : Tm} {σ σ' : Mem} (hG : σ.G = σ'.G) {ops : Array Oper} {id : Nat} {o : Oper} (h : ∀ t ∈ o.looksAt ops, a.get t = a'.get t) : asoft P a σ id o = asoft P a' σ' id o := by
  rw [asoft_G hG]
  refine asoft_congr fun x hx => aev_get fun t ht => h t ?_
  subst ht
  simp only [Oper.looksAt, List.mem_append, List.mem_filterMap]
  exact .inl ⟨.tmp t, by simpa using hx, rfl⟩

end

/-! ### what stands before what -/
def bitsOf (acc : List Nat) (o : Oper) : Nat := o.after.toList.foldl (fun s e => if Region.binds .any e then s ||| 2 ^ e.on ||| acc.getD e.on 0 else s) 0
def masks : List Oper → List Nat → List Nat
  | [], acc => acc
  | o :: l, acc => masks l (acc ++ [bitsOf acc o])
theorem foldl_bits (acc : List Nat) (D : Nat → Prop) (hacc : ∀ i, D i → ∀ k, (acc.getD i 0).testBit k = true → D k) : ∀ (es : List Edge) (s : Nat),
    (∀ k, s.testBit k = true → D k) → (∀ e ∈ es, Region.binds .any e = true → D e.on) → ∀ k, (es.foldl (fun s e => if Region.binds .any e then s ||| 2 ^ e.on ||| acc.getD e.on 0 else s) s).testBit k = true → D k
  | [], s, hs, _, k, h => hs k h
  | e :: es, s, hs, he, k, h => by
    simp only [List.foldl_cons] at h
    refine foldl_bits acc D hacc es _ ?_ (fun e' h' => he e' (by simp [h'])) k h
    intro k hk
    split at hk
    · rename_i hb
      simp only [Nat.testBit_or, Bool.or_eq_true, Nat.testBit_two_pow, decide_eq_true_eq] at hk
      rcases hk with (hk | hk) | hk
      · exact hs k hk
      · subst hk; exact he e (by simp) hb
      · exact hacc e.on (he e (by simp) hb) k hk
    · exact hs k hk
def ClosedD (all : List Oper) (D : Nat → Prop) : Prop := ∀ i o, all[i]? = some o → D i → ∀ e ∈ o.after, Region.binds .any e = true → D e.on
def StrictM (all : List Oper) (acc : List Nat) : Prop := ∀ k o, k < acc.length → all[k]? = some o → ∀ D : Nat → Prop, ClosedD all D → (∀ e ∈ o.after, Region.binds .any e = true → D e.on) → ∀ i, (acc.getD k 0).testBit i = true → D i
theorem masks_strict (all : List Oper) : ∀ (l : List Oper) (acc : List Nat), (∀ i, l[i]? = all[acc.length + i]?) → StrictM all acc → StrictM all (masks l acc)
  | [], acc, _, hacc => hacc
  | o :: l, acc, hl, hacc => by
    simp only [masks]
    refine masks_strict all l (acc ++ [bitsOf acc o]) (fun i => by have := hl (i + 1); simp at this ⊢; rw [this]; congr 1; omega) ?_
    have ho : all[acc.length]? = some o := by have := hl 0; simpa using this.symm
    intro k o' hk hko D hD hdeps i hi
    by_cases h : k < acc.length
    · simp only [List.getD_eq_getElem?_getD, List.getElem?_append_left h] at hi
      exact hacc k o' h hko D hD hdeps i (by simpa [List.getD_eq_getElem?_getD] using hi)
    · have h2 : k = acc.length := by simp at hk; omega
      subst h2
      rw [ho] at hko; cases hko
      simp at hi
      refine foldl_bits acc D (fun x hx y hy => ?_) o.after.toList 0 (fun k h => by simp at h) (fun e he hb => hdeps e (by simpa using he) hb) i hi
      by_cases hxl : x < acc.length
      · cases hox : all[x]? with
        | none =>
          exfalso
          have := hl 0
          have h1 : all.length ≤ x := by simpa using hox
          have h2 : acc.length < all.length := by
            rcases Nat.lt_or_ge acc.length all.length with h | h
            · exact h
            · simp [List.getElem?_eq_none h] at ho
          omega
        | some ox => exact hacc x ox hxl hox D hD (fun e he hb => hD x ox hox hx e he hb) y hy
      · simp [List.getD_eq_getElem?_getD, List.getElem?_eq_none (Nat.le_of_not_lt hxl)] at hy

/-- an operation that leaves the memory alone -/
def quietB : Builtin → Bool
  | .len | .max | .min | .cap | .unsafeSliceData => true
  | _ => false
def quietOp (P : Program) : Op → Bool
  | .move _ | .assign _ | .pick _ _ _ | .build _ _ | .load _ _ | .nilCheck _ | .binOp _ _ _ _ _ | .unOp _ _ _ | .makeInterface _ _ | .makeFunc _ _ _ | .slice _ _ _ _ _ | .fieldAddr _ _ _ | .field _ _ _
  | .indexAddr _ _ _ | .index _ _ _ | .typeAssert _ _ _ _ | .extract _ _ => true
  | .convert _ d _ => (match P.underlying d with | some (.slice _) => false | _ => true)
  | .call c => (match c.callee with | .builtin b => quietB b | _ => false)
  | _ => false

/-! ### the region's theorem -/
section
variable (P : Program) (call : ACall) (ops : Array Oper)

/-- the temporaries behind those operations of the first m that D names, in the text's order -/
def actD (v : Nat → Value) (A0 : Tm) (D : Nat → Bool) : Nat → Tm
  | 0 => A0
  | m + 1 => if D m then aput (actD v A0 D m) ((ops[m]?).bind (·.dst)) (v m) else actD v A0 D m
/-- one behind the last loud operation that D names -/
def lastD (loud : Nat → Bool) (D : Nat → Bool) : Nat → Nat
  | 0 => 0
  | m + 1 => if D m && loud m then m + 1 else lastD loud D m
end
section
variable {P : Program} {X : AExt} {call : ACall} {ops : Array Oper} {v : Nat → Value} {A0 : Tm} {loud : Nat → Bool}
theorem sz_actD (D : Nat → Bool) : ∀ m, (actD ops v A0 D m).sz = A0.sz
  | 0 => rfl
  | m + 1 => by simp only [actD]; split <;> simp [sz_aput, sz_actD D m]
theorem get_actD {D D' : Nat → Bool} {t : Nat} : ∀ m, (∀ i, i < m → (ops[i]?).bind (·.dst) = some t → D i = D' i) → (actD ops v A0 D m).get t = (actD ops v A0 D' m).get t
  | 0, _ => rfl
  | m + 1, h => by
    have ih := get_actD m fun i hi => h i (by omega)
    simp only [actD]
    by_cases hd : (ops[m]?).bind (·.dst) = some t
    · rw [h m (by omega) hd]
      split
      · rw [get_aput, get_aput, sz_actD, sz_actD, ih]
      · exact ih
    · have hn : ∀ x : Tm, ∀ u, (aput x ((ops[m]?).bind (·.dst)) u).get t = x.get t := by
        intro x u; rw [get_aput, if_neg (by simp [hd])]
      split <;> split <;> (try simp only [hn]) <;> exact ih
/-- the value at a slot whose last writer among D is k -/
theorem get_actD_last {D : Nat → Bool} {k t : Nat} (hk : D k = true) (hd : (ops[k]?).bind (·.dst) = some t) : ∀ m, k < m → (∀ i, k < i → i < m → (ops[i]?).bind (·.dst) = some t → D i = false) →
    (actD ops v A0 D m).get t = if t < A0.sz then v k else A0.get t
  | 0, h, _ => by omega
  | m + 1, h, hl => by
    simp only [actD]
    by_cases e : m = k
    · subst e
      rw [if_pos hk, get_aput, hd, sz_actD]
      by_cases ht : t < A0.sz
      · simp [ht]
      · simp only [ht, and_false, if_false]
        have : ∀ m, (actD ops v A0 D m).get t = A0.get t := by
          intro m
          induction m with
          | zero => rfl
          | succ m ih =>
            simp only [actD]
            split
            · rw [get_aput, sz_actD, if_neg (by simp [ht])]; exact ih
            · exact ih
        exact this m
    · have ih := get_actD_last hk hd m (by omega) fun i h1 h2 => hl i h1 (by omega)
      split
      · rename_i hD
        rw [get_aput, if_neg, ih]
        rintro ⟨h1, _⟩
        rw [hl m (by omega) (by omega) h1] at hD
        cases hD
      · exact ih
theorem lastD_congr {D D' : Nat → Bool} : ∀ m, (∀ i, i < m → loud i = true → D i = D' i) → lastD loud D m = lastD loud D' m
  | 0, _ => rfl
  | m + 1, h => by
    have ih := lastD_congr m fun i hi => h i (by omega)
    simp only [lastD]
    by_cases hl : loud m = true
    · rw [h m (by omega) hl, ih]
    · simp [hl, ih]
theorem lastD_le {D : Nat → Bool} : ∀ m, lastD loud D m ≤ m
  | 0 => Nat.le_refl _
  | m + 1 => by simp only [lastD]; split; exact Nat.le_refl _; have := lastD_le (D := D) m; omega
theorem lastD_ge {D : Nat → Bool} {l : Nat} (hD : D l = true) (hl : loud l = true) : ∀ m, l < m → l + 1 ≤ lastD loud D m
  | 0, h => by omega
  | m + 1, h => by
    simp only [lastD]
    split
    · omega
    · rename_i hn
      have : l ≠ m := by intro e; subst e; simp [hD, hl] at hn
      exact lastD_ge hD hl m (by omega)
theorem lastD_spec {D : Nat → Bool} : ∀ m, lastD loud D m = 0 ∨ ∃ l, l < m ∧ D l = true ∧ loud l = true ∧ lastD loud D m = l + 1
  | 0 => .inl rfl
  | m + 1 => by
    simp only [lastD]
    split
    · rename_i h; simp only [Bool.and_eq_true] at h; exact .inr ⟨m, by omega, h.1, h.2, rfl⟩
    · rcases lastD_spec (D := D) m with h | ⟨l, h1, h2⟩
      · exact .inl h
      · exact .inr ⟨l, by omega, h2⟩

/-- the text's run: what each operation found and left; and the checks -/
structure Run (P : Program) (X : AExt) (call : ACall) (ops : Array Oper) (N : Nat) (loud : Nat → Bool) (mask : Nat → Nat) (v : Nat → Value) (A0 : Tm) (S : Nat → Mem) (base : Nat) (B : Nat → Option Blk) : Prop where
  bound : N ≤ ops.size
  edge : ∀ i o, ops[i]? = some o → ∀ e ∈ o.after, Region.binds .any e = true → e.on < i
  strict : ∀ k o, ops[k]? = some o → ∀ D : Nat → Prop, (∀ i o, ops[i]? = some o → D i → ∀ e ∈ o.after, Region.binds .any e = true → D e.on) →
    (∀ e ∈ o.after, Region.binds .any e = true → D e.on) → ∀ i, (mask k).testBit i = true → D i
  apart : ∀ i k oi ok, i < k → k < N → ops[i]? = some oi → ops[k]? = some ok → (mask k).testBit i = false → oi.apart ops ok = true ∧ (loud i && loud k) = false
  same : ∀ i, i < N → loud i = false → B i = none → S (i + 1) = S i
  softS : ∀ i x, i < N → B i = some x → loud i = false ∧ S (i + 1) = (S i).set (base + i) x
  softX : ∀ i o x, i < N → ops[i]? = some o → B i = some x → awanted ops o (actD ops v A0 (fun _ => true) i) = true ∧ (S i).G = (S 0).G ∧ asoft P (actD ops v A0 (fun _ => true) i) (S i) (base + i) o = some (v i, x)
  softN : ∀ i x, i < N → B i = some x → ∀ q, (q = 0 ∨ ∃ l, q = l + 1 ∧ l < N ∧ loud l = true) → q ≤ i → (S q).get (base + i) = none
  softL : ∀ i x, i < N → B i = some x → ∀ l, l < N → loud l = true → i < l → (mask l).testBit i = false → (S (l + 1)).get (base + i) = some x
  skip : ∀ i o, i < N → ops[i]? = some o → awanted ops o (actD ops v A0 (fun _ => true) i) = false → v i = undef ∧ B i = none ∧ S (i + 1) = S i
  quiet : ∀ i o, i < N → ops[i]? = some o → loud i = false → B i = none → awanted ops o (actD ops v A0 (fun _ => true) i) = true →
    ∀ q, (q = 0 ∨ ∃ l, q = l + 1 ∧ l < N ∧ loud l = true) → (∀ l, l < N → loud l = true → (mask i).testBit l = true → l < q) → (∀ l, l < N → loud l = true → (mask l).testBit i = true → q ≤ l) →
      aexec P X (actD ops v A0 (fun _ => true) i) (S q) o = some (.val (v i) (S q)) ∨
      (q = lastD loud (fun _ => true) i ∧ aexec P X (actD ops v A0 (fun _ => true) i) (S i) o = some (.val (v i) (S i)))
  loud : ∀ i o, i < N → ops[i]? = some o → loud i = true → awanted ops o (actD ops v A0 (fun _ => true) i) = true →
    aexec P X (actD ops v A0 (fun _ => true) i) (S i) o = some (.val (v i) (S (i + 1))) ∨
    (aexec P X (actD ops v A0 (fun _ => true) i) (S i) o = some (.skip (S (i + 1))) ∧ v i = undef) ∨
    (∃ f args σ, aexec P X (actD ops v A0 (fun _ => true) i) (S i) o = some (.enter f args σ) ∧ call f args σ = some (.ret (v i), S (i + 1)))

variable {N : Nat} {mask : Nat → Nat} {S : Nat → Mem} {base : Nat} {B : Nat → Option Blk} {Q : Exit → Act → World → Prop}

theorem actD_lt : ∀ m k, actD ops v A0 (fun i => decide (i < k)) m = actD ops v A0 (fun _ => true) (min m k)
  | 0, k => by simp [actD]
  | m + 1, k => by
    simp only [actD, actD_lt m k]
    by_cases h : m < k
    · rw [Nat.min_eq_left (by omega : m ≤ k), Nat.min_eq_left (by omega : m + 1 ≤ k)]
      simp [h, actD]
    · rw [Nat.min_eq_right (by omega : k ≤ m), Nat.min_eq_right (by omega : k ≤ m + 1)]
      simp [h]
/-- the memory behind k, from that behind an earlier place, if no loud one stands between -/
theorem span (hr : Run P X call ops N loud mask v A0 S base B) {q : Nat} : ∀ k, q ≤ k → k ≤ N → (∀ l, q ≤ l → l < k → loud l = false) →
    (S k).next = (S q).next ∧ (S k).G = (S q).G ∧ ∀ a, (S k).get a = (sel base B (fun i => decide (q ≤ i) && decide (i < k)) a).or ((S q).get a)
  | 0, hq, _, _ => by
    have : q = 0 := by omega
    subst this
    exact ⟨rfl, rfl, fun a => by simp [sel]⟩
  | k + 1, hq, hk, hl => by
    by_cases e : q = k + 1
    · subst e
      refine ⟨rfl, rfl, fun a => ?_⟩
      have : sel base B (fun i => decide (k + 1 ≤ i) && decide (i < k + 1)) a = none := by
        unfold sel
        split
        · rename_i h; simp only [Bool.and_eq_true, decide_eq_true_eq] at h; omega
        · rfl
      rw [this]; rfl
    · obtain ⟨h1, h2, h3⟩ := span hr k (by omega) (by omega) fun l g1 g2 => hl l g1 (by omega)
      have hlk := hl k (by omega) (by omega)
      cases hB : B k with
      | none =>
        rw [hr.same k (by omega) hlk hB]
        refine ⟨h1, h2, fun a => ?_⟩
        rw [h3]
        congr 1
        unfold sel
        by_cases e2 : a - base = k
        · rw [e2, hB]; simp
        · have : decide (a - base < k + 1) = decide (a - base < k) := by simp; omega
          simp only [this]
      | some x =>
        obtain ⟨_, hs⟩ := hr.softS k x (by omega) hB
        rw [hs]
        refine ⟨by simpa using h1, by simpa using h2, fun a => ?_⟩
        rw [Mem.get_set]
        by_cases e2 : base + k = a
        · subst e2
          rw [if_pos rfl, sel_at]
          have : (decide (q ≤ k) && decide (k < k + 1)) = true := by simp; omega
          show some x = ((if (decide (q ≤ k) && decide (k < k + 1)) = true then B k else none).or _)
          rw [if_pos this, hB]; rfl
        · rw [if_neg e2, h3]
          congr 1
          unfold sel
          by_cases hb : base ≤ a
          · have : decide (a - base < k + 1) = decide (a - base < k) := by simp; omega
            simp only [this]
          · simp [hb]
theorem lastD_none {D : Nat → Bool} : ∀ m l, lastD loud D m ≤ l → l < m → loud l = true → D l = false
  | 0, l, _, h, _ => by omega
  | m + 1, l, h1, h2, h3 => by
    cases hD : D l with
    | false => rfl
    | true => have := lastD_ge hD h3 (m + 1) h2; omega

/-- the state of a run in whatever order: D holds what is done; σ is the memory behind the loud ones that are done, with the blocks that came early -/
structure Inv (P : Program) (ops : Array Oper) (N : Nat) (loud : Nat → Bool) (v : Nat → Value) (A0 : Tm) (S : Nat → Mem) (base : Nat) (B : Nat → Option Blk) (df : List ADef) (j0 : J) (σ0 : Mem) (w0 : World) (D : Nat → Bool) (σ : Mem) (j : J) (c : Act) (w : World) : Prop where
  closed : ∀ i o, ops[i]? = some o → D i = true → ∀ e ∈ o.after, Region.binds .any e = true → D e.on = true
  lt : ∀ i, D i = true → i < N
  tm : TmR j (actD ops v A0 D N) c.tmps
  df : DfR j df c.defers
  next : σ.next = (S (lastD loud D N)).next
  G : σ.G = (S (lastD loud D N)).G
  get : ∀ a, σ.get a = (sel base B (fun i => D i && decide (lastD loud D N ≤ i)) a).or ((S (lastD loud D N)).get a)
  wr : WR j σ w
  ext : Ext j0 σ0 w0 j σ w
  top : base + N ≤ σ.next
  low : σ0.next ≤ base
  g0 : (S 0).G = σ0.G
  undone : ∀ i, i < N → D i = false → B i ≠ none → j (base + i) = none

/-- what the memory behind k says of what is there -/
theorem Inv.less (hr : Run P X call ops N loud mask v A0 S base B) {df : List ADef} {j0 : J} {σ0 : Mem} {w0 : World} {D : Nat → Bool} {σ : Mem} {j : J} {c : Act} {w : World}
    (h : Inv P ops N loud v A0 S base B df j0 σ0 w0 D σ j c w) {k : Nat} (hk : lastD loud D N ≤ k) (hkN : k ≤ N) (hl : ∀ l, lastD loud D N ≤ l → l < k → loud l = false) :
    (S k).next = σ.next ∧ (S k).G = σ.G ∧ ∀ a im, j a = some im → (S k).get a = none ∨ (S k).get a = σ.get a := by
  obtain ⟨h1, h2, h3⟩ := span hr k hk hkN hl
  refine ⟨by rw [h1, h.next], by rw [h2, h.G], fun a im ha => ?_⟩
  rw [h3, h.get]
  cases hs : sel base B (fun i => decide (lastD loud D N ≤ i) && decide (i < k)) a with
  | some x =>
    obtain ⟨i, rfl, hp, hB⟩ := sel_some hs
    simp only [Bool.and_eq_true, decide_eq_true_eq] at hp
    right
    cases hD : D i with
    | true =>
      rw [sel_at]
      have : decide (lastD loud D N ≤ i) = true := by simpa using hp.1
      simp [hD, hB, this]
    | false =>
      have := h.undone i (by omega) hD (by simp [hB])
      rw [this] at ha; cases ha
  | none =>
    cases hs2 : sel base B (fun i => D i && decide (lastD loud D N ≤ i)) a with
    | none => exact .inr rfl
    | some x =>
      obtain ⟨i, rfl, hp, hB⟩ := sel_some hs2
      simp only [Bool.and_eq_true, decide_eq_true_eq] at hp
      left
      have := hr.softN i x (h.lt i hp.1) hB (lastD loud D N) (by
        rcases lastD_spec (loud := loud) (D := D) N with h0 | ⟨l, g1, g2, g3, g4⟩
        · exact .inl h0
        · exact .inr ⟨l, g4, g1, g3⟩) hp.2
      simp [this]

theorem apart_comm (ops : Array Oper) (x y : Oper) : x.apart ops y = y.apart ops x := by
  unfold Oper.apart
  generalize x.looksAt ops = lx
  generalize y.looksAt ops = ly
  cases x.dst with
  | none => cases y.dst with
    | none => rfl
    | some e =>
      simp only
      have : (none != some e) = true := rfl
      rw [this]; cases lx.contains e <;> rfl
  | some d => cases y.dst with
    | none =>
      simp only
      have : (none != some d) = true := rfl
      rw [this]; cases ly.contains d <;> rfl
    | some e =>
      simp only
      have : (some e != some d) = (some d != some e) := bne_comm
      rw [this]
      cases ly.contains d <;> cases lx.contains e <;> cases (some d != some e) <;> rfl
def mark (D : Nat → Bool) (k : Nat) : Nat → Bool := fun i => D i || i == k

theorem wpOp_any (hng : NoNG P X) (hcall : CallOK P call) (hr : Run P X call ops N loud mask v A0 S base B) {df : List ADef} {j0 : J} {σ0 : Mem} {w0 : World} {D : Nat → Bool} {σ : Mem} {j : J} {c : Act} {w : World}
    (h : Inv P ops N loud v A0 S base B df j0 σ0 w0 D σ j c w) {k : Nat} {o : Oper} (hkn : k < N) (ho : ops[k]? = some o) (hk : D k = false) (hdeps : ∀ e ∈ o.after, Region.binds .any e = true → D e.on = true) {K : Act → World → Prop}
    (hK : ∀ σ' j' c' w', Inv P ops N loud v A0 S base B df j0 σ0 w0 (mark D k) σ' j' c' w' → K c' w') : wpOp P ops Q k K c w := by
  have hbound := hr.bound
  -- what stands before k is done; what stands behind it is not
  have hbef : ∀ i, (mask k).testBit i = true → D i = true := fun i hi => hr.strict k o ho (fun x => D x = true) h.closed hdeps i hi
  have hlt : ∀ i, (mask k).testBit i = true → i < k := fun i hi => hr.strict k o ho (fun x => x < k) (fun x o' hx hd e he hb => Nat.lt_trans (hr.edge x o' hx e he hb) hd) (hr.edge k o ho) i hi
  have haft : ∀ i, i < N → (mask i).testBit k = true → D i = false := by
    intro i hin hi
    cases hDi : D i with
    | false => rfl
    | true =>
      have := hr.strict i (ops[i]'(by omega)) (Array.getElem?_eq_getElem (by omega)) (fun x => D x = true) h.closed (h.closed i (ops[i]'(by omega)) (Array.getElem?_eq_getElem (by omega)) hDi) k hi
      rw [hk] at this; cases this
  -- those that are not apart from k are before it or behind it
  have hside : ∀ i oi, i < N → ops[i]? = some oi → i ≠ k → (oi.apart ops o = false ∨ o.apart ops oi = false ∨ (loud i && loud k) = true) → D i = decide (i < k) := by
    intro i oi hin hoi hne hna
    have hsym : oi.apart ops o = o.apart ops oi := apart_comm ops oi o
    rcases Nat.lt_or_ge i k with hik | hik
    · cases hm : (mask k).testBit i with
      | true => rw [hbef i hm]; simp [hik]
      | false =>
        obtain ⟨h1, h2⟩ := hr.apart i k oi o hik hkn hoi ho hm
        rcases hna with hna | hna | hna
        · rw [h1] at hna; cases hna
        · rw [← hsym, h1] at hna; cases hna
        · rw [h2] at hna; cases hna
    · have hki : k < i := by omega
      cases hm : (mask i).testBit k with
      | true => rw [haft i hin hm]; simp [Nat.not_lt.2 hik]
      | false =>
        obtain ⟨h1, h2⟩ := hr.apart k i o oi hki hin ho hoi hm
        rcases hna with hna | hna | hna
        · rw [hsym, h1] at hna; cases hna
        · rw [h1] at hna; cases hna
        · rw [Bool.and_comm, h2] at hna; cases hna
  -- what k looks at
  have hlook : ∀ t ∈ o.looksAt ops, (actD ops v A0 D N).get t = (actD ops v A0 (fun _ => true) k).get t := by
    intro t ht
    have e1 : actD ops v A0 (fun _ => true) k = actD ops v A0 (fun i => decide (i < k)) N := by
      rw [actD_lt, Nat.min_eq_right (Nat.le_of_lt hkn)]
    rw [e1]
    refine get_actD _ fun i hi hd => ?_
    by_cases hik : i = k
    · subst hik; simp [hk]
    · obtain ⟨oi, hoi, hoid⟩ : ∃ oi, ops[i]? = some oi ∧ oi.dst = some t := by simpa [Option.bind_eq_some_iff] using hd
      refine hside i oi hi hoi hik (.inl ?_)
      cases hap : oi.apart ops o with
      | false => rfl
      | true => exact absurd ht ((Oper.apart_spec hap).1 t hoid)
  have hwant : awanted ops o (actD ops v A0 D N) = awanted ops o (actD ops v A0 (fun _ => true) k) := awanted_looks (by simp [sz_actD]) hlook
  have hexec : ∀ σ, aexec P X (actD ops v A0 D N) σ o = aexec P X (actD ops v A0 (fun _ => true) k) σ o := fun σ => aexec_looks hlook
  -- the temporaries behind k
  have hmarkk : mark D k k = true := by simp [mark]
  have hmark : ∀ i, i ≠ k → mark D k i = D i := by intro i hi; simp [mark, hi]
  have hput : ∀ (j' : J) (c' : Act) (v' : Value), TmR j' (actD ops v A0 D N) c'.tmps → VR j' (v k) v' → TmR j' (actD ops v A0 (mark D k) N) (c'.put o.dst v').tmps := by
    intro j' c' v' h1 h2
    have h3 := h1.put o.dst h2
    refine ⟨by rw [sz_actD]; have := h3.sz; rwa [sz_aput, sz_actD] at this, fun t => ?_⟩
    have h4 := h3.get t
    rw [get_aput, sz_actD] at h4
    by_cases hd : o.dst = some t
    · have hdk : (ops[k]?).bind (·.dst) = some t := by simp [ho, hd]
      rw [get_actD_last hmarkk hdk N hkn]
      · by_cases ht : t < A0.sz
        · rw [if_pos ht]; rw [if_pos ⟨hd, ht⟩] at h4; exact h4
        · rw [if_neg ht]
          rw [if_neg (by simp [ht])] at h4
          have : (actD ops v A0 D N).get t = A0.get t := by
            have hall : ∀ m, (actD ops v A0 D m).get t = A0.get t := by
              intro m
              induction m with
              | zero => rfl
              | succ m ih =>
                simp only [actD]
                split
                · rw [get_aput, sz_actD, if_neg (by simp [ht])]; exact ih
                · exact ih
            exact hall _
          rwa [this] at h4
      · intro i hi1 hi2 hdi
        rw [hmark i (by omega)]
        obtain ⟨oi, hoi, hoid⟩ : ∃ oi, ops[i]? = some oi ∧ oi.dst = some t := by simpa [Option.bind_eq_some_iff] using hdi
        have := hside i oi hi2 hoi (by omega) (.inl (by
          cases hap : oi.apart ops o with
          | false => rfl
          | true => exact absurd hd ((Oper.apart_spec hap).2.1 t hoid)))
        rw [this]; simp; omega
    · rw [if_neg (by simp [hd])] at h4
      rw [get_actD (D' := D) N fun i _ hdi => ?_]
      · exact h4
      · refine hmark i fun e => ?_
        subst e
        simp [ho] at hdi
        exact hd hdi
  have hmlt : ∀ i, mark D k i = true → i < N := by
    intro i hi
    simp only [mark, Bool.or_eq_true, beq_iff_eq] at hi
    rcases hi with hi | hi
    · exact h.lt i hi
    · omega
  have hclosed : ∀ i o', ops[i]? = some o' → mark D k i = true → ∀ e ∈ o'.after, Region.binds .any e = true → mark D k e.on = true := by
    intro i o' hi hm e he hb
    by_cases hik : i = k
    · subst hik
      rw [ho] at hi; cases hi
      simp [mark, hdeps e he hb]
    · rw [hmark i hik] at hm
      simp [mark, h.closed i o' hi hm e he hb]
  have hqplace : lastD loud D N = 0 ∨ ∃ l, lastD loud D N = l + 1 ∧ l < N ∧ loud l = true := by
    rcases lastD_spec (loud := loud) (D := D) N with h0 | ⟨l, h1, h2, h3, h4⟩
    · exact .inl h0
    · exact .inr ⟨l, h4, h1, h3⟩
  -- a step of a quiet one
  have hlastq : loud k = false → lastD loud (mark D k) N = lastD loud D N := fun hl => lastD_congr _ fun i _ hli => hmark i (by rintro rfl; rw [hl] at hli; cases hli)
  have hgetq : loud k = false → B k = none → ∀ a, σ.get a = (sel base B (fun i => mark D k i && decide (lastD loud (mark D k) N ≤ i)) a).or ((S (lastD loud (mark D k) N)).get a) := by
    intro hl hB a
    rw [hlastq hl, h.get]
    congr 1
    unfold sel
    by_cases e : a - base = k
    · rw [e, hB]; simp
    · simp only [hmark _ e]
  have hnxt : ∀ i, i < N → base + i < σ.next := fun i hi => by have := h.top; omega
  have hloud : loud k = true → WR j (S k) w ∧ ∀ j' w' v', WR j' (S (k + 1)) w' → Ext j (S k) w j' (S (k + 1)) w' → VR j' (v k) v' → K (c.put o.dst v') w' := by
    intro hl
    -- a loud one: all loud ones ahead of it are done, and no other
    have hDk : ∀ i, i < N → loud i = true → i ≠ k → D i = decide (i < k) := fun i hin hli hik => hside i (ops[i]'(by omega)) hin (Array.getElem?_eq_getElem (by omega)) hik (.inr (.inr (by rw [hli, hl]; rfl)))
    have hqk : lastD loud D N ≤ k := by
      rcases lastD_spec (loud := loud) (D := D) N with h0 | ⟨l, g1, g2, g3, g4⟩
      · omega
      · have hlk : l ≠ k := by rintro rfl; rw [hk] at g2; cases g2
        have := hDk l g1 g3 hlk
        rw [g2] at this
        have : l < k := by simpa using this.symm
        omega
    have hbetween : ∀ l, lastD loud D N ≤ l → l < k → loud l = false := by
      intro l g1 g2
      cases hll : loud l with
      | false => rfl
      | true =>
        have e1 := lastD_none (D := D) N l g1 (by omega) hll
        have e2 := hDk l (by omega) hll (by omega)
        rw [e1] at e2
        simp at e2; omega
    have hlast : lastD loud (mark D k) N = k + 1 := by
      have e1 : lastD loud (mark D k) N = lastD loud (fun i => decide (i < k + 1)) N := by
        refine lastD_congr _ fun i hin hli => ?_
        by_cases hik : i = k
        · subst hik; simp [hmarkk]
        · rw [hmark i hik, hDk i hin hli hik]
          simp; omega
      rw [e1]
      have e2 : ∀ m, k < m → lastD loud (fun i => decide (i < k + 1)) m = k + 1 := by
        intro m
        induction m with
        | zero => intro h; omega
        | succ m ih =>
          intro hm
          simp only [lastD]
          by_cases e : m = k
          · subst e; simp [hl]
          · have : ¬ m < k + 1 := by omega
            simp only [this, decide_false, Bool.false_and, Bool.false_eq_true, if_false]
            exact ih (by omega)
      exact e2 _ hkn
    obtain ⟨g1, g2, g3⟩ := h.less hr hqk (Nat.le_of_lt hkn) hbetween
    have hwr := h.wr.less g1 g2 g3
    refine ⟨hwr, ?_⟩
    intro j' w' v' h1 h2 h3
    obtain ⟨σ', s1, s2, s3⟩ := sel_ex base B (fun i => D i && decide (k + 1 ≤ i)) (S (k + 1)) N
    have s3' : ∀ a, σ'.get a = (sel base B (fun i => mark D k i && decide (k + 1 ≤ i)) a).or ((S (k + 1)).get a) := by
      intro a
      rw [s3]
      congr 1
      unfold sel
      by_cases e : a - base = k
      · have : decide (k + 1 ≤ a - base) = false := by simp; omega
        simp only [this, Bool.and_false, Bool.false_and]
      · simp only [hmark _ e]
        by_cases hDi : D (a - base) = true
        · have hN := h.lt _ hDi
          have : decide (a - base < N) = true := by simpa using hN
          simp only [this, Bool.and_true]
        · have : D (a - base) = false := by simpa using hDi
          simp only [this, Bool.false_and]
    have hold : ∀ a im, j' a = some im → a < σ.next → j a = some im := by
      intro a im ha hlt'
      rcases h2.dom a im ha with e | e
      · exact e
      · omega
    obtain ⟨f1, f2⟩ := step_less (σ' := σ') h.wr h.ext g1 g2 g3 h1 h2 s1 s2 (fun a im ha => by
      rw [s3']
      cases hsl : sel base B (fun i => mark D k i && decide (k + 1 ≤ i)) a with
      | none => left; rfl
      | some x =>
        obtain ⟨i, rfl, hp, hB⟩ := sel_some hsl
        simp only [Bool.and_eq_true, decide_eq_true_eq] at hp
        rw [hmark i (by omega)] at hp
        have hiN := h.lt i hp.1
        right
        refine ⟨hold _ im ha (hnxt i hiN), ?_, ?_⟩
        · obtain ⟨_, _, t3⟩ := span hr k hqk (Nat.le_of_lt hkn) hbetween
          rw [t3, sel_at]
          have e1 : decide (i < k) = false := by simp; omega
          simp only [e1, Bool.and_false, Bool.false_eq_true, if_false]
          simp only [Option.none_or]
          exact hr.softN i x hiN hB _ hqplace (by omega)
        · rw [h.get, sel_at]
          have e1 : decide (lastD loud D N ≤ i) = true := by simp; omega
          simp [hp.1, e1, hB])
    refine hK σ' j' _ w' ⟨hclosed, hmlt, hput j' c v' (h.tm.mono h2.mono) h3, by rw [Act.put_def]; exact h.df.mono h2.mono, by rw [hlast]; exact s1, by rw [hlast]; exact s2, by rw [hlast]; exact s3', f1, f2, ?_, h.low, h.g0, ?_⟩
    · have := h.top; have := h2.next; omega
    · intro i hi hm hBi
      have hDi : D i = false := by simp only [mark, Bool.or_eq_false_iff] at hm; exact hm.1
      have hn := h.undone i hi hDi hBi
      cases hj' : j' (base + i) with
      | none => rfl
      | some im => rw [hold _ im hj' (hnxt i hi)] at hn; cases hn
  unfold wpOp
  simp only [ho]
  rw [wanted_ok h.tm ops o, hwant]
  by_cases hw : awanted ops o (actD ops v A0 (fun _ => true) k) = true
  · rw [if_pos hw]
    left
    unfold Oper.wp
    have hop : ∀ σ n, WR j σ w → aexec P X (actD ops v A0 (fun _ => true) k) σ o = some n → NR j σ w n ((execOp c.eval o).run P w) := fun σ n hσ hn => aexec_ok hng hσ h.tm (by rw [hexec]; exact hn)
    cases hl : loud k with
    | false =>
      cases hB : B k with
      | none =>
        -- a quiet one: its value is the same in each state in which it may come
        have hq := hr.quiet k o hkn ho hl hB hw (lastD loud D N) hqplace
          (fun l hln hll hm => lastD_ge (hbef l hm) hll _ hln)
          (fun l hln hll hm => by
            have hDl := haft l hln hm
            rcases lastD_spec (loud := loud) (D := D) N with h0 | ⟨m, h1, h2, h3, h4⟩
            · omega
            · rw [h4]
              have hml : m ≠ l := by rintro rfl; rw [hDl] at h2; cases h2
              rcases Nat.lt_or_ge m l with hlt' | hge
              · exact hlt'
              · exfalso
                have hlm : l < m := by omega
                cases hb : (mask m).testBit l with
                | true =>
                  have := hr.strict m (ops[m]'(by omega)) (Array.getElem?_eq_getElem (by omega)) (fun x => D x = true) h.closed (h.closed m (ops[m]'(by omega)) (Array.getElem?_eq_getElem (by omega)) h2) l hb
                  rw [hDl] at this; cases this
                | false =>
                  have := (hr.apart l m (ops[l]'(by omega)) (ops[m]'(by omega)) hlm h1 (Array.getElem?_eq_getElem (by omega)) (Array.getElem?_eq_getElem (by omega)) hb).2
                  rw [hll, h3] at this; cases this)
        -- the place whose memory it is shown with
        obtain ⟨p, hp1, hp2, hp3, hx⟩ : ∃ p, lastD loud D N ≤ p ∧ p ≤ N ∧ (∀ l, lastD loud D N ≤ l → l < p → loud l = false) ∧ aexec P X (actD ops v A0 (fun _ => true) k) (S p) o = some (.val (v k) (S p)) := by
          rcases hq with hq | ⟨e, hq⟩
          · refine ⟨_, Nat.le_refl _, ?_, fun l h1 h2 => by omega, hq⟩
            have := lastD_le (loud := loud) (D := D) N; omega
          · refine ⟨k, by rw [e]; exact lastD_le k, Nat.le_of_lt hkn, fun l h1 h2 => ?_, hq⟩
            rw [e] at h1
            cases hll : loud l with
            | false => rfl
            | true => have := lastD_none (D := fun _ => true) k l h1 h2 hll; cases this
        obtain ⟨g1, g2, g3⟩ := h.less hr hp1 hp2 hp3
        have hwp := h.wr.less g1 g2 g3
        have hnr := hop _ _ hwp hx
        generalize (execOp c.eval o).run P w = r at hnr ⊢
        cases hnr with
        | val _ _ v' w' j' h1 h2 h3 =>
          have hold : ∀ a im, j' a = some im → a < σ.next → j a = some im := by
            intro a im ha hlt'
            rcases h2.dom a im ha with e | e
            · exact e
            · omega
          obtain ⟨f1, f2⟩ := step_less (σ' := σ) h.wr h.ext g1 g2 g3 h1 h2 g1.symm g2.symm (fun a im ha => by
            by_cases hlt' : a < σ.next
            · have hja := hold a im ha hlt'
              rcases g3 a im hja with e | e
              · exact .inr ⟨hja, e, rfl⟩
              · exact .inl e.symm
            · left
              have := h1.lt a im ha
              omega)
          refine hK σ j' _ w' ⟨hclosed, hmlt, hput j' c v' (h.tm.mono h2.mono) h3, by rw [Act.put_def]; exact h.df.mono h2.mono, by rw [hlastq hl]; exact h.next, by rw [hlastq hl]; exact h.G, hgetq hl hB, f1, f2, h.top, h.low, h.g0, ?_⟩
          intro i hi hm hBi
          have hDi : D i = false := by simp only [mark, Bool.or_eq_false_iff] at hm; exact hm.1
          have hn := h.undone i hi hDi hBi
          cases hj' : j' (base + i) with
          | none => rfl
          | some im => rw [hold _ im hj' (hnxt i hi)] at hn; cases hn
      | some x =>
        -- a block that is only made
        obtain ⟨_, hgg, hs⟩ := hr.softX k o x hkn ho hB
        have hs' : asoft P (actD ops v A0 D N) σ (base + k) o = some (v k, x) := by
          rw [← hs]
          have hGG : σ.G = (S k).G := by rw [hgg, h.g0, h.ext.G]
          exact asoft_looks hGG hlook
        obtain ⟨cs, T, cs', v', rfl, hrun, hv, hval⟩ := asoft_ok h.wr h.tm hs'
        rw [hrun]
        simp only [Oper.upon]
        obtain ⟨f0, f1, f2⟩ := soft_step h.wr h.ext (h.undone k hkn hk (by simp [hB])) (by have := h.low; omega) (hnxt k hkn) (T := T) hv
        refine hK _ _ _ _ ⟨hclosed, hmlt, hput _ c v' (h.tm.mono f0) (hval _ (upd_same _ _ _)), by rw [Act.put_def]; exact h.df.mono f0, by rw [hlastq hl]; exact h.next, by rw [hlastq hl]; exact h.G, ?_, f1, f2, h.top, h.low, h.g0, ?_⟩
        · intro a
          rw [hlastq hl, Mem.get_set]
          by_cases e : base + k = a
          · subst e
            rw [if_pos rfl, sel_at, hmarkk]
            by_cases hle : lastD loud D N ≤ k
            · simp [hle, hB]
            · simp only [hle, decide_false, Bool.and_false, Bool.false_eq_true, if_false]
              rcases lastD_spec (loud := loud) (D := D) N with h0 | ⟨l, g1, g2, g3, g4⟩
              · omega
              · have hlk : l ≠ k := by rintro rfl; rw [hk] at g2; cases g2
                rw [g4, hr.softL k _ hkn hB l g1 g3 (by omega) ?_]
                · rfl
                · cases hb : (mask l).testBit k with
                  | false => rfl
                  | true => rw [haft l g1 hb] at g2; cases g2
          · rw [if_neg e, h.get]
            congr 1
            unfold sel
            by_cases hb : base ≤ a
            · have : a - base ≠ k := by omega
              simp only [hmark _ this]
            · simp [hb]
        · intro i hi hm hBi
          have hDi : D i = false := by simp only [mark, Bool.or_eq_false_iff] at hm; exact hm.1
          have hne : i ≠ k := by rintro rfl; rw [hmarkk] at hm; cases hm
          rw [upd_ne _ _ (by omega)]
          exact h.undone i hi hDi hBi
    | true =>
      obtain ⟨hwr, fin⟩ := hloud hl
      rcases hr.loud k o hkn ho hl hw with hq | ⟨hq, hv⟩ | ⟨f, args, σ1, hq, hc⟩
      · have hnr := hop _ _ hwr hq
        generalize (execOp c.eval o).run P w = r at hnr ⊢
        cases hnr with
        | val _ _ v' w' j' h1 h2 h3 => exact fin j' w' v' h1 h2 h3
      · have hnr := hop _ _ hwr hq
        generalize (execOp c.eval o).run P w = r at hnr ⊢
        generalize hS : S (k + 1) = σ' at hnr
        cases hnr with
        | skip _ w' j' h1 h2 => exact fin j' w' undef (by rw [hS]; exact h1) (by rw [hS]; exact h2) (by rw [hv]; exact VR.undef)
      · have hnr := hop _ _ hwr hq
        generalize (execOp c.eval o).run P w = r at hnr ⊢
        generalize hS : S k = σk at hnr hwr
        cases hnr with
        | enter _ _ args' h3 =>
          simp only [Oper.upon]
          refine (hcall _ _ _ _ _ hc j w args' hwr h3).mono fun e' w' he => ?_
          obtain ⟨j', h1, h2, h4⟩ := he
          cases h1 with
          | ret _ v' hv => exact fin j' w' v' h2 (by rw [hS]; exact h4) hv
  · rw [if_neg hw]
    have hw' : awanted ops o (actD ops v A0 (fun _ => true) k) = false := by simpa using hw
    obtain ⟨hv, hB, hs⟩ := hr.skip k o hkn ho hw'
    have hund : ∀ i, i < N → mark D k i = false → B i ≠ none → j (base + i) = none := by
      intro i hi hm hBi
      have hDi : D i = false := by simp only [mark, Bool.or_eq_false_iff] at hm; exact hm.1
      exact h.undone i hi hDi hBi
    cases hl : loud k with
    | false => exact hK σ j _ w ⟨hclosed, hmlt, hput j c undef h.tm (by rw [hv]; exact VR.undef), by rw [Act.put_def]; exact h.df, by rw [hlastq hl]; exact h.next, by rw [hlastq hl]; exact h.G, hgetq hl hB, h.wr, h.ext, h.top, h.low, h.g0, hund⟩
    | true =>
      obtain ⟨hwr, fin⟩ := hloud hl
      exact fin j w undef (by rw [hs]; exact hwr) (by rw [hs]; exact Ext.refl _ _ _) (by rw [hv]; exact VR.undef)
end
end Go.Ab
