import Derived.Test.YtgfncelakfdmlaaGreatDoorAbExec6
/-! Lengths, interfaces, conversions, make, copy. -/
namespace Go.Ab
open Go

section
variable {P : Program} {j : J} {σ : Mem} {w : World}

def xLen (P : Program) (σ : Mem) (t : TypeId) (x : Value) : Option Value :=
  match P.underlying t, x with
  | some .string, .string s => some (.int .i64 s.size)
  | some (.slice _), .slice _ n _ => some (.int .i64 n)
  | some (.array n _), _ => some (.int .i64 n)
  | some (.map _ _), .map none => some (.int .i64 0)
  | some (.map _ _), .map (some r) => (match σ.get r with
    | some (.map es _) => some (.int .i64 es.length)
    | _ => none)
  | _, _ => none
theorem MRs.length : ∀ {l l' : List MapEntry}, MRs j l l' → l.length = l'.length
  | _, _, .nil => rfl
  | _, _, .cons _ _ _ _ _ _ _ t => by simp [MRs.length t]
theorem map_of (h : WR j σ w) {a : Nat} {im : Im} (hj : j a = some im) {es : List MapEntry} {cl : Nat} (hg : σ.get a = some (.map es cl)) :
    ∃ es', w.heap[im.b]? = some (.map es' cl) ∧ MRs j es es'.toList := by
  obtain ⟨o, ho, hb⟩ := h.blk a im _ hj hg
  cases hb with
  | map _ es' _ hm => exact ⟨es', ho, hm⟩
theorem xLen_ok (h : WR j σ w) {t ty : TypeId} {x x' v : Value} (hx : VR j x x') (hl : xLen P σ t x = some v) : Yields P j σ w (Builtin.len_ #[t] ty #[x']) v σ := by
  unfold xLen at hl
  split at hl
  · rename_i s hd; cases hl; obtain rfl := hx.string_inv; exact Yields.same h (by simp [Builtin.len_, run_underlying hd, goInt]) (.int _ _)
  · rename_i b n c hd; cases hl
    cases hx <;> exact Yields.same h (by simp [Builtin.len_, run_underlying hd, goInt]) (.int _ _)
  · rename_i n e hd; cases hl; exact Yields.same h (by simp [Builtin.len_, run_underlying hd, goInt]) (.int _ _)
  · rename_i hd; cases hl; cases hx; exact Yields.same h (by simp [Builtin.len_, run_underlying hd, goInt]) (.int _ _)
  · rename_i r hd
    split at hl
    · rename_i es cl hg
      cases hl
      cases hx with
      | map _ im hj =>
        obtain ⟨es', h1, h2⟩ := map_of h hj hg
        refine Yields.same h (v' := .int .i64 es.length) ?_ (.int _ _)
        have : (getObj im.b).run P w = .ok (.map es' cl) w := by simp [getObj, Sem.run, h1]
        simp [Builtin.len_, run_underlying hd, this, goInt, h2.length]
    · cases hl
  · cases hl

def xMakeIface (P : Program) (t : TypeId) (x : Value) : Option Value :=
  match P.underlying t with
  | some (.interface _) => none
  | some _ => some (.iface t x)
  | none => none
theorem xMakeIface_ok (h : WR j σ w) {t : TypeId} {x x' v : Value} (hx : VR j x x') (hl : xMakeIface P t x = some v) : Yields P j σ w (Instr.makeInterface t x') v σ := by
  unfold xMakeIface at hl
  split at hl
  · cases hl
  · rename_i d hne hd
    cases hl
    refine Yields.same h (v' := .iface t x') ?_ (.iface _ _ _ hx)
    simp only [Instr.makeInterface, Sem.run_bind, run_underlying hd, Result.andThen_ok]
    rfl
  · cases hl

def xAssert (P : Program) (x : Value) (asserted : TypeId) (commaOk : Bool) : Option Value :=
  match P.underlying asserted with
  | none => none
  | some (.interface want) => (match x with
    | .iface t _ => (match P.info? t with
      | some i => (match Instr.missingMethod want i.methods with
        | none => some (if commaOk then .tuple #[x, .bool true] else x)
        | some _ => none)
      | none => none)
    | _ => none)
  | some _ => (match x with
    | .iface t v => if t = asserted then some (if commaOk then .tuple #[v, .bool true] else v)
        else if commaOk then (match P.info? asserted with
          | some i => (match i.zero with
            | some z => if plain z then some (.tuple #[z, .bool false]) else none
            | none => none)
          | none => none) else none
    | .nilIface => if commaOk then (match P.info? asserted with
          | some i => (match i.zero with
            | some z => if plain z then some (.tuple #[z, .bool false]) else none
            | none => none)
          | none => none) else none
    | _ => none)
theorem VR.pair {a b a' b' : Value} (h : VR j a a') (k : VR j b b') : VR j (.tuple #[a, b]) (.tuple #[a', b']) := .tuple _ _ (.cons _ _ _ _ h (.cons _ _ _ _ k .nil))
theorem xAssert_ok (h : WR j σ w) {x x' v : Value} {xType asserted : TypeId} {commaOk : Bool} (hx : VR j x x') (hl : xAssert P x asserted commaOk = some v) :
    Yields P j σ w (Instr.typeAssert x' xType asserted commaOk) v σ := by
  unfold xAssert at hl
  split at hl
  · cases hl
  · rename_i want hd
    split at hl
    · rename_i t u
      split at hl
      · rename_i i hi
        split at hl
        · rename_i hm
          obtain ⟨u', rfl, hu⟩ := hx.iface_inv
          cases hl
          cases commaOk
          · exact Yields.same h (by simp [Instr.typeAssert, run_underlying hd, info_run hi, hm]) (.iface _ _ _ hu)
          · exact Yields.same h (by simp [Instr.typeAssert, run_underlying hd, info_run hi, hm]) (VR.pair (.iface _ _ _ hu) (.bool true))
        · cases hl
      · cases hl
    · cases hl
  · rename_i d hne hd
    have hni : ∀ ms, d ≠ .interface ms := fun ms e => hne ms e
    split at hl
    · rename_i t u
      obtain ⟨u', rfl, hu⟩ := hx.iface_inv
      split at hl
      · rename_i ht
        subst ht
        cases hl
        have : (Instr.typeAssert (.iface t u') xType t commaOk).run P w = .ok (if commaOk then .tuple #[u', .bool true] else u') w := by
          cases d <;> first | exact absurd rfl (hni _) | simp [Instr.typeAssert, run_underlying hd]
        cases commaOk
        · exact Yields.same h this hu
        · exact Yields.same h this (VR.pair hu (.bool true))
      · rename_i ht
        split at hl
        · rename_i hc
          split at hl
          · rename_i i hi
            split at hl
            · rename_i z hz
              split at hl
              · rename_i hp
                cases hl
                have : (Instr.typeAssert (.iface t u') xType asserted true).run P w = .ok (.tuple #[z, .bool false]) w := by
                  cases d <;> first | exact absurd rfl (hni _) | simp [Instr.typeAssert, run_underlying hd, ht, zero_run hi hz]
                subst hc
                exact Yields.same h this (VR.pair (VR.of_plain hp) (.bool false))
              · cases hl
            · cases hl
          · cases hl
        · cases hl
    · split at hl
      · rename_i hc
        split at hl
        · rename_i i hi
          split at hl
          · rename_i z hz
            split at hl
            · rename_i hp
              cases hl
              cases hx
              have : (Instr.typeAssert .nilIface xType asserted true).run P w = .ok (.tuple #[z, .bool false]) w := by
                cases d <;> first | exact absurd rfl (hni _) | simp [Instr.typeAssert, run_underlying hd, zero_run hi hz]
              subst hc
              exact Yields.same h this (VR.pair (VR.of_plain hp) (.bool false))
            · cases hl
          · cases hl
        · cases hl
      · cases hl
    · cases hl

/-- bytes as a string: all cells must be bytes -/
def xBytes : List Value → Option (List UInt8)
  | [] => some []
  | .int .u8 n :: l => (xBytes l).map (UInt8.ofNat n.toNat :: ·)
  | _ => none
theorem xBytes_ok : ∀ {l : List Value} {bs : List UInt8}, xBytes l = some bs → ∀ {l' : List Value}, VRs j l l' → ∃ ns : List Int, l' = ns.map (Value.int .u8) ∧ bs = ns.map fun n => UInt8.ofNat n.toNat
  | [], bs, h, l', hv => by
    simp only [xBytes] at h; cases h; cases hv
    exact ⟨[], rfl, rfl⟩
  | .int .u8 n :: l, bs, h, l', hv => by
    simp only [xBytes, Option.map_eq_some_iff] at h
    obtain ⟨bs', h1, rfl⟩ := h
    cases hv with
    | cons _ v' _ l1 hv1 ht =>
      obtain rfl := hv1.int_inv
      obtain ⟨ns, rfl, rfl⟩ := xBytes_ok h1 ht
      exact ⟨n :: ns, rfl, rfl⟩
theorem push_fold (ns : List Int) : ∀ (b : ByteArray), ns.foldl (fun (r : ByteArray) (n : Int) => r.push (UInt8.ofNat n.toNat)) b = ⟨(b.data.toList ++ ns.map fun n => UInt8.ofNat n.toNat).toArray⟩ := by
  induction ns with
  | nil => intro b; simp
  | cons n ns ih =>
    intro b
    simp only [List.foldl_cons, List.map_cons]
    rw [ih]
    simp [ByteArray.push]

def isU8 : Option TypeDesc → Bool
  | some (.int .u8) => true
  | _ => false
def xConvert (P : Program) (σ : Mem) (src dst : TypeId) (x : Value) : Option (Value × Mem) :=
  match P.underlying src, P.underlying dst, x with
  | some _, some (.int k), .int _ n => some (.int k (k.wrap n), σ)
  | some _, some .string, .string s => some (.string s, σ)
  | some _, some (.slice e), .string s =>
    if isU8 (P.underlying e) && s.size ≤ 1099511627776 then
      some (.slice (some ⟨σ.next, 0, none⟩) s.size (1 * BIG + s.size), σ.new (.row (s.data.toList.map fun b => .int .u8 b.toNat) e (BIG, BIG)))
    else none
  | some (.slice e), some .string, .slice none _ _ => if isU8 (P.underlying e) then some (.string ⟨#[]⟩, σ) else none
  | some (.slice e), some .string, .slice (some a) n _ =>
    if isU8 (P.underlying e) then
      (match aloads σ a n with
      | some l => (xBytes l).map fun bs => (.string ⟨bs.toArray⟩, σ)
      | none => none)
    else none
  | _, _, _ => none
theorem u8_of {o : Option TypeDesc} (h : isU8 o = true) : o = some (.int .u8) := by
  unfold isU8 at h
  split at h
  · rfl
  · cases h
theorem run_stringToBytes (e : TypeId) (s : ByteArray) (w : World) : ∃ c, s.size ≤ c ∧ (Conv.stringToBytes e s).run P w =
    .ok (.slice (some ⟨w.heap.size, 0, none⟩) s.size c) { w with drawn := w.drawn + 1, heap := w.heap.push (.cells ((s.data.map fun (b : UInt8) => Value.int .u8 b.toNat) ++ Array.replicate (c - s.size) (Value.int .u8 0)) e (c, c + 1)) } := by
  refine ⟨Question.cut (.appendCap s.size 0 e) (w.tape w.drawn (.appendCap s.size 0 e)), by simp [Question.cut], ?_⟩
  have hle : s.size ≤ Question.cut (.appendCap s.size 0 e) (w.tape w.drawn (.appendCap s.size 0 e)) := by simp [Question.cut]
  simp only [Conv.stringToBytes, Sem.run_bind, run_choose, Question.forced, Bool.false_eq_true, if_false, Result.andThen_ok]
  generalize Question.cut (.appendCap s.size 0 e) (w.tape w.drawn (.appendCap s.size 0 e)) = c at *
  have hsz : ((s.data.map fun (b : UInt8) => Value.int .u8 b.toNat) ++ Array.replicate (c - s.size) (Value.int .u8 0)).size = c := by
    simp only [Array.size_append, Array.size_map, Array.size_replicate]
    have : s.data.size = s.size := rfl
    omega
  generalize ((s.data.map fun (b : UInt8) => Value.int .u8 b.toNat) ++ Array.replicate (c - s.size) (Value.int .u8 0)) = cs at *
  have hsh : ({ w with drawn := w.drawn + 1, heap := w.heap.push (.cells cs e (0, 0)) } : World).shape? w.heap.size = some (e, c) := by
    simp [World.shape?, hsz]
  simp only [newRow, newObj, Sem.run_bind, Sem.run, Result.andThen_ok, markStringish, run_shape, Sem.run_pure, hsh, run_freeze]
  congr 1
  simp only [World.freeze]
  rw [if_neg (by omega)]
  congr 1
  apply Array.ext_getElem?
  intro i
  rw [Array.getElem?_modify]
  by_cases h : w.heap.size = i
  · subst h; simp
  · rw [if_neg h]
    simp only [Array.getElem?_push]
    split
    · omega
    · rfl
theorem xConvert_ok (h : WR j σ w) {src dst : TypeId} {x x' : Value} (hx : VR j x x') {r : Value × Mem} (hl : xConvert P σ src dst x = some r) : Yields P j σ w (convert src dst x') r.1 r.2 := by
  unfold xConvert at hl
  split at hl
  · rename_i ds k k' n hs hd
    cases hl
    obtain rfl := hx.int_inv
    exact Yields.same h (by simp [convert, run_underlying hs, run_underlying hd, Conv.intToInt]) (.int _ _)
  · rename_i ds s hs hd
    cases hl
    obtain rfl := hx.string_inv
    exact Yields.same h (by simp [convert, run_underlying hs, run_underlying hd]) (.string _)
  · rename_i ds e s hs hd
    split at hl
    · rename_i he
      simp only [Bool.and_eq_true, decide_eq_true_eq] at he
      obtain ⟨he, hbig⟩ := he
      have he := u8_of he
      cases hl
      obtain rfl := hx.string_inv
      obtain ⟨c, hc, hrun⟩ := run_stringToBytes (P := P) e s w
      have hlen : (s.data.toList.map fun (b : UInt8) => Value.int .u8 b.toNat).length = s.size := by
        rw [List.length_map]; rfl
      have hsz : ((s.data.map fun (b : UInt8) => Value.int .u8 b.toNat) ++ Array.replicate (c - s.size) (Value.int .u8 0)).size = c := by
        simp only [Array.size_append, Array.size_map, Array.size_replicate]
        have : s.data.size = s.size := rfl
        omega
      have hnew := new_ok h (x := .row (s.data.toList.map fun (b : UInt8) => Value.int .u8 b.toNat) e (BIG, BIG))
        (o := .cells ((s.data.map fun (b : UInt8) => Value.int .u8 b.toNat) ++ Array.replicate (c - s.size) (Value.int .u8 0)) e (c, c + 1)) (sz := c)
        (w' := { w with drawn := w.drawn + 1, heap := w.heap.push (.cells ((s.data.map fun (b : UInt8) => Value.int .u8 b.toNat) ++ Array.replicate (c - s.size) (Value.int .u8 0)) e (c, c + 1)) })
        (.row _ _ _ _ _ hsz (by unfold FrR; rw [if_pos rfl]) (by rw [hlen]; exact hc) (by
          rw [hlen]
          have : ((s.data.map fun (b : UInt8) => Value.int .u8 b.toNat) ++ Array.replicate (c - s.size) (Value.int .u8 0)).toList.take s.size = s.data.toList.map fun (b : UInt8) => Value.int .u8 b.toNat := by
            rw [Array.toList_append, Array.toList_map, List.take_append_of_le_length (by rw [hlen]; exact Nat.le_refl _)]
            exact List.take_of_length_le (by rw [hlen]; exact Nat.le_refl _)
          rw [this]
          exact VRs.of_plain (bytes_plain _))) rfl rfl rfl rfl
      refine ⟨_, _, .slice (some ⟨w.heap.size, 0, none⟩) s.size c, ?_, hnew.1, hnew.2, ?_⟩
      · have hd' : (match P.underlying e with | some (.int .u8) => True | _ => False) := by rw [he]; trivial
        simp only [convert, Sem.run_bind, run_underlying hs, run_underlying hd, Result.andThen_ok, run_underlying he, hrun]
      · refine .slice ⟨σ.next, 0, none⟩ ⟨w.heap.size, c⟩ _ _ _ (upd_same _ _ _) (capR_new (by omega) ?_ hc (by simp))
        unfold BIG; omega
    · cases hl
  · rename_i e l c hs hd
    split at hl
    · rename_i he
      have he := u8_of he
      cases hl
      obtain rfl := hx.nils_inv
      exact Yields.same h (by simp [convert, run_underlying hs, run_underlying hd, run_underlying he, Conv.bytesToString]; rfl) (.string _)
    · cases hl
  · rename_i e a n c hs hd
    split at hl
    · rename_i he
      have he := u8_of he
      split at hl
      · rename_i l hld
        simp only [Option.map_eq_some_iff] at hl
        obtain ⟨bs, hb, rfl⟩ := hl
        obtain ⟨im, c', hj, hcr, rfl⟩ := hx.slice_inv
        obtain ⟨l', l1, l2, l3⟩ := loads_ok P h hj hld
        obtain ⟨ns, rfl, rfl⟩ := xBytes_ok hb l2
        have hr := run_bytesToString w { a with block := im.b } n c' ns l1
        rw [push_fold] at hr
        refine Yields.same h (v' := _) ?_ (.string _)
        simp only [convert, Sem.run_bind, run_underlying hs, run_underlying hd, Result.andThen_ok, run_underlying he, hr]
        simp
      · cases hl
    · cases hl
  · cases hl
end
end Go.Ab
