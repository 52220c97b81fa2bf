import Derived.Test.YtgfncelakfdmlaaGreatDoorAbExec3
/-! append. -/
namespace Go.Ab
open Go

section
variable {P : Program} {j : J} {σ : Mem} {w : World}

theorem kill_ok (h : WR j σ w) (b : Nat) : WR j (σ.kill b) w ∧ Ext j σ w j (σ.kill b) w := by
  have hget : ∀ x, (σ.kill b).get x = if b = x then none else σ.get x := fun x => σ.get_kill b x
  have hsome : ∀ x, ((σ.kill b).get x).isSome → (σ.get x).isSome := by
    intro x hx
    rw [hget] at hx
    split at hx
    · simp at hx
    · exact hx
  refine ⟨⟨h.lt, fun a a' im im' h1 h2 he s1 s2 => h.inj a a' im im' h1 h2 he (hsome _ s1) (hsome _ s2), fun a im x ha hx => ?_, h.glob⟩, ?_⟩
  · rw [hget] at hx
    split at hx
    · cases hx
    · exact h.blk a im x ha hx
  · exact ⟨Le.refl j, Nat.le_refl _, rfl, rfl, rfl, rfl, Nat.le_refl _, fun _ _ _ => rfl, fun a im ha hs _ => ⟨a, im, ha, rfl, hsome _ hs⟩, fun _ _ h => .inl h⟩

/-- a block gets a new name; its old name is gone -/
theorem renew_ok (h : WR j σ w) {b : Nat} {im : Im} (hj : j b = some im) {x0 x : Blk} (h0 : σ.get b = some x0) {o : Obj} (hb : BR (upd j σ.next im) im.sz x o)
    {w' : World} (hw : w'.heap = w.heap.setIfInBounds im.b o) (hos : w'.os = w.os) (ht : w'.tape = w.tape) (ho : w'.output = w.output) :
    WR (upd j σ.next im) ((σ.kill b).new x) w' ∧ Ext j σ w (upd j σ.next im) ((σ.kill b).new x) w' := by
  have hsz : w'.heap.size = w.heap.size := by rw [hw]; simp
  have hbl : b < σ.next ∧ im.b < w.heap.size := ⟨h.lt b im hj, h.sz hj (by simp [h0])⟩
  have hle := le_upd h im
  have hget : ∀ y, ((σ.kill b).new x).get y = if σ.next = y then some x else if b = y then none else σ.get y := by
    intro y; rw [Mem.get_new, Mem.get_kill]; rfl
  have hcase : ∀ a im1, upd j σ.next im a = some im1 → (((σ.kill b).new x).get a).isSome → (a = σ.next ∧ im1 = im) ∨ (a ≠ σ.next ∧ a ≠ b ∧ j a = some im1 ∧ (σ.get a).isSome) := by
    intro a im1 ha hs
    by_cases e : a = σ.next
    · subst e; rw [upd_same] at ha; cases ha; exact .inl ⟨rfl, rfl⟩
    · rw [upd_ne _ _ e] at ha
      rw [hget, if_neg (Ne.symm e)] at hs
      split at hs
      · simp at hs
      · rename_i hne; exact .inr ⟨e, Ne.symm hne, ha, hs⟩
  have hdiff : ∀ a im1, a ≠ b → j a = some im1 → (σ.get a).isSome → im1.b ≠ im.b := fun a im1 hne ha hs e =>
    hne (h.inj a b im1 im ha hj e hs (by simp [h0]))
  refine ⟨⟨?_, ?_, ?_, ?_⟩, ?_⟩
  · intro a im1 ha
    by_cases e : a = σ.next
    · subst e; simp
    · rw [upd_ne _ _ e] at ha; have := h.lt a im1 ha; simp; omega
  · intro a a' im1 im2 ha ha' he hs hs'
    rcases hcase a im1 ha hs with ⟨e, e1⟩ | ⟨e, e1, e2, e3⟩ <;> rcases hcase a' im2 ha' hs' with ⟨f, f1⟩ | ⟨f, f1, f2, f3⟩
    · omega
    · subst e1; exact absurd he.symm (hdiff a' im2 f1 f2 f3)
    · subst f1; exact absurd he (hdiff a im1 e1 e2 e3)
    · exact h.inj a a' im1 im2 e2 f2 he e3 f3
  · intro a im1 y ha hy
    rcases hcase a im1 ha (by simp [hy]) with ⟨e, e1⟩ | ⟨e, e1, e2, e3⟩
    · subst e; subst e1
      rw [hget, if_pos rfl] at hy; cases hy
      exact ⟨o, by rw [hw, Array.getElem?_setIfInBounds]; simp [hbl.2], hb⟩
    · rw [hget, if_neg (Ne.symm e), if_neg (Ne.symm e1)] at hy
      obtain ⟨o', ho', hbr⟩ := h.blk a im1 y e2 hy
      refine ⟨o', ?_, hbr.mono hle⟩
      rw [hw, Array.getElem?_setIfInBounds, if_neg (Ne.symm (hdiff a im1 e1 e2 e3))]; exact ho'
  · intro g hg
    obtain ⟨im1, h1, h2⟩ := h.glob g hg
    exact ⟨im1, hle _ _ h1, h2⟩
  · refine ⟨hle, by simp, rfl, hos, ht, ho, by omega, fun k hk hn => ?_, fun a im1 ha hs _ => ?_, fun a im1 ha => ?_⟩
    · rw [hw, Array.getElem?_setIfInBounds]
      have hne : im.b ≠ k := fun e => by rw [hn b im hj e] at h0; cases h0
      rw [if_neg hne]
    · rcases hcase a im1 ha hs with ⟨e, e1⟩ | ⟨e, e1, e2, e3⟩
      · subst e1; exact ⟨b, im1, hj, rfl, by simp [h0]⟩
      · exact ⟨a, im1, e2, rfl, e3⟩
    · by_cases e : a = σ.next
      · exact .inr (by omega)
      · rw [upd_ne _ _ e] at ha; exact .inl ha

def xNews (σ : Mem) (size : Nat) : Value → Option (List Value × Nat)
  | .slice (some b) n _ => (aloads σ b (n * size)).map fun l => (l, n)
  | .slice none n _ => if n = 0 then some ([], 0) else none
  | .string s => if size = 1 then some (s.data.toList.map fun b => .int .u8 b.toNat, s.size) else none
  | _ => none
theorem bytes_plain (l : List UInt8) : (l.map fun b => Value.int .u8 b.toNat).all plain = true := by simp [plain]
theorem xNews_ok (h : WR j σ w) {size : Nat} {x x' : Value} (hx : VR j x x') {l : List Value} {n : Nat} (hl : xNews σ size x = some (l, n)) :
    ∃ l', (Builtin.lenOf x').run P w = .ok n w ∧ (∀ w2 : World, w2.heap = w.heap → (Builtin.firstCells size n x').run P w2 = .ok (l' : List Value).toArray w2) ∧ VRs j l l' ∧ l.length = n * size := by
  unfold xNews at hl
  split at hl
  · rename_i b m c
    simp only [Option.map_eq_some_iff, Prod.mk.injEq] at hl
    obtain ⟨l0, h0, rfl, rfl⟩ := hl
    obtain ⟨im, c', hj, hcr, rfl⟩ := hx.slice_inv
    obtain ⟨l', h1, h2, h3⟩ := loads_all P h hj h0
    refine ⟨l', by simp [Builtin.lenOf], fun w2 hw2 => ?_, h2, by rw [h2.length]; exact h3⟩
    simpa [Builtin.firstCells] using h1 w2 hw2
  · rename_i m c
    split at hl
    · rename_i h0
      cases hl
      obtain rfl := hx.nils_inv
      subst h0
      exact ⟨[], by simp [Builtin.lenOf], fun w2 _ => by simp [Builtin.firstCells], .nil, by simp⟩
    · cases hl
  · rename_i s
    split at hl
    · rename_i h1
      cases hl
      subst h1
      obtain rfl := hx.string_inv
      refine ⟨_, by simp [Builtin.lenOf], fun w2 _ => ?_, VRs.of_plain (bytes_plain _), by simp⟩
      have : s.extract 0 s.size = s := by
        apply ByteArray.ext
        rw [ByteArray.data_extract]
        exact Array.extract_size
      simp only [Builtin.firstCells, this, Sem.run_pure]
      congr 1
      apply Array.toList_inj.1
      simp
    · cases hl
  · cases hl

def isIntD : TypeDesc → Bool
  | .int _ => true
  | _ => false
theorem growBy_le (n : Nat) : ∀ (r c : Nat), Builtin.growBy n r c ≤ max c (n + (n + 768) / 4)
  | 0, c => by simp [Builtin.growBy]; omega
  | r + 1, c => by
    simp only [Builtin.growBy]
    split
    · omega
    · have := growBy_le n r (c + (c + 768) / 4)
      omega
theorem nextslicecap_le {need old : Nat} (h : old < need) : Builtin.nextslicecap need old ≤ 2 * need + 512 := by
  unfold Builtin.nextslicecap
  split
  · omega
  · split
    · omega
    · have := growBy_le need 4 old
      omega
def okGrow (i : TypeInfo) (need : Nat) : Bool := decide (need ≤ 1099511627776) && decide (need * i.bytes ≤ 1099511627776) && decide (i.bytes ≤ 1073741824)

/-- what append comes to when there is room -/
theorem append_room {t0 t1 ty e : TypeId} {i : TypeInfo} {d1 : TypeDesc} (hd0 : P.underlying t0 = some (.slice e)) (hi : P.info? e = some i) (hd1 : P.underlying t1 = some d1) (hint : isIntD d1 = false)
    {base : Option Addr} {len c n : Nat} {x : Value} {news : Array Value} {w w' : World} (hlen : (Builtin.lenOf x).run P w = .ok n w) (hfirst : (Builtin.firstCells i.size n x).run P w = .ok news w) (hle : len + n ≤ c)
    (hst : ∀ a, base = some a → (storeCells (a.add (len * i.size)) news.toList).run P w = .ok () w') (hno : base = none → w' = w) :
    (Builtin.append_ #[t0, t1] ty #[.slice base len c, x]).run P w = .ok (.slice base (len + n) c) w' := by
  simp only [Builtin.append_, List.getElem?_toArray, List.getElem?_cons_zero, List.getElem?_cons_succ, Sem.run_bind, run_underlying hd0, Result.andThen_ok, size_run hi, run_underlying hd1, Sem.run_pure]
  cases d1 <;> simp only [isIntD, Bool.true_eq_false] at hint <;>
  · simp only [Bool.false_eq_true, if_false, hlen, Result.andThen_ok, hle, if_true, Bool.not_false, Sem.run_bind, hfirst]
    cases base with
    | none => simp [hno rfl]
    | some a => simp [hst a rfl]

theorem append_grow {t0 t1 ty e : TypeId} {i : TypeInfo} {d1 : TypeDesc} (hd0 : P.underlying t0 = some (.slice e)) (hi : P.info? e = some i) (hd1 : P.underlying t1 = some d1) (hint : isIntD d1 = false)
    {z : Value} (hz : i.zero = some z) {base : Option Addr} {len c n : Nat} {x : Value} {old news : Array Value} {w : World} (hlen : (Builtin.lenOf x).run P w = .ok n w)
    (hfirst : ∀ w2 : World, w2.heap = w.heap → (Builtin.firstCells i.size n x).run P w2 = .ok news w2) (hold : ∀ w2 : World, w2.heap = w.heap → (Builtin.firstCells i.size len (.slice base len c)).run P w2 = .ok old w2)
    (hnle : ¬ len + n ≤ c) (hok : okGrow i (len + n) = true) (hby : 0 < i.bytes) :
    ∃ cap', len + n ≤ cap' ∧ (Builtin.append_ #[t0, t1] ty #[.slice base len c, x]).run P w =
      .ok (.slice (some ⟨w.heap.size, 0, none⟩) (len + n) cap') { w with drawn := w.drawn + 1, heap := w.heap.push (.cells (old ++ news ++ Builtin.zeroCells z.cells (cap' - (len + n))) e (0, 0)) } := by
  simp only [okGrow, Bool.and_eq_true, decide_eq_true_eq] at hok
  obtain ⟨⟨h1, h2⟩, h3⟩ := hok
  have hmax : ¬ (((len + n : Nat) : Int) > IntKind.i64.max) := by
    have : IntKind.i64.max = 9223372036854775807 := rfl
    rw [this]; omega
  have hcap : ¬ (Builtin.nextslicecap (len + n) c * i.bytes > 2 ^ 48) := by
    have := nextslicecap_le (show c < len + n by omega)
    have := Nat.mul_le_mul_right i.bytes this
    rw [Nat.add_mul, Nat.mul_assoc] at this
    omega
  refine ⟨Question.cut (.appendCap (len + n) c e) (w.tape w.drawn (.appendCap (len + n) c e)), by simp [Question.cut], ?_⟩
  simp only [Builtin.append_, List.getElem?_toArray, List.getElem?_cons_zero, List.getElem?_cons_succ, Sem.run_bind, run_underlying hd0, Result.andThen_ok, size_run hi, run_underlying hd1, Sem.run_pure]
  cases d1 <;> simp only [isIntD, Bool.true_eq_false] at hint <;>
  · simp only [Bool.false_eq_true, if_false, hlen, Result.andThen_ok, hnle, Bool.not_false, Sem.run_bind, false_or, info_run hi, hmax, false_and, hcap, run_choose, Question.forced, run_askRoom, Sem.run_pure, Sem.run_ite]
    have e1 := hold w.drew rfl
    have e2 := hfirst w.drew rfl
    simp [e1, e2, zero_run hi hz, newRow, hcap]
    rfl
end
end Go.Ab
