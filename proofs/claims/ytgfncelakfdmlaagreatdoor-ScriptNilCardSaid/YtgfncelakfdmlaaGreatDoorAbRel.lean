import Derived.Test.YtgfncelakfdmlaaGreatDoorAbMem
/-! The relation between the abstract memory and the model's world. -/
namespace Go.Ab
open Go

structure Im where
  b : Nat
  sz : Nat
abbrev J := Nat → Option Im

def BIG : Nat := 18446744073709551616
/-- a capacity below BIG is known; 's * BIG + lb': elements of s cells, at least lb of them. -/
def CapR (off sz c c' : Nat) : Prop := if c < BIG then c' = c else c % BIG ≤ c' ∧ off + c' * (c / BIG) ≤ sz

mutual
inductive VR (j : J) : Value → Value → Prop
  | bool (b : Bool) : VR j (.bool b) (.bool b)
  | int (k : IntKind) (n : Int) : VR j (.int k n) (.int k n)
  | float (k : FloatKind) (n : Nat) : VR j (.float k n) (.float k n)
  | complex (k : FloatKind) (n m : Nat) : VR j (.complex k n m) (.complex k n m)
  | string (s : ByteArray) : VR j (.string s) (.string s)
  | nilp : VR j (.pointer none) (.pointer none)
  | ptr (a : Addr) (im : Im) (h : j a.block = some im) : VR j (.pointer (some a)) (.pointer (some { a with block := im.b }))
  | nils (l c : Nat) : VR j (.slice none l c) (.slice none l c)
  | slice (a : Addr) (im : Im) (l c c' : Nat) (h : j a.block = some im) (hc : CapR a.off im.sz c c') :
      VR j (.slice (some a) l c) (.slice (some { a with block := im.b }) l c')
  | nilm : VR j (.map none) (.map none)
  | map (r : Nat) (im : Im) (h : j r = some im) : VR j (.map (some r)) (.map (some im.b))
  | nilch : VR j (.chan none) (.chan none)
  | func (fn : Fn) (f f' c c' : Array Value) (h : VRs j f.toList f'.toList) (h' : VRs j c.toList c'.toList) : VR j (.func fn f c) (.func fn f' c')
  | nilFunc : VR j .nilFunc .nilFunc
  | iface (t : TypeId) (v v' : Value) (h : VR j v v') : VR j (.iface t v) (.iface t v')
  | nilIface : VR j .nilIface .nilIface
  | agg (cs cs' : Array Value) (h : VRs j cs.toList cs'.toList) : VR j (.agg cs) (.agg cs')
  | tuple (cs cs' : Array Value) (h : VRs j cs.toList cs'.toList) : VR j (.tuple cs) (.tuple cs')
inductive VRs (j : J) : List Value → List Value → Prop
  | nil : VRs j [] []
  | cons (v v' : Value) (l l' : List Value) (h : VR j v v') (t : VRs j l l') : VRs j (v :: l) (v' :: l')
end

/-- j' knows all that j knows -/
def Le (j j' : J) : Prop := ∀ a im, j a = some im → j' a = some im
theorem Le.refl (j : J) : Le j j := fun _ _ h => h
theorem Le.trans {a b c : J} (h : Le a b) (k : Le b c) : Le a c := fun x im e => k x im (h x im e)

mutual
theorem VR.mono {j j' : J} (hj : Le j j') : ∀ {v v' : Value}, VR j v v' → VR j' v v'
  | _, _, .bool b => .bool b
  | _, _, .int k n => .int k n
  | _, _, .float k n => .float k n
  | _, _, .complex k n m => .complex k n m
  | _, _, .string s => .string s
  | _, _, .nilp => .nilp
  | _, _, .ptr a im h => .ptr a im (hj _ _ h)
  | _, _, .nils l c => .nils l c
  | _, _, .slice a im l c c' h hc => .slice a im l c c' (hj _ _ h) hc
  | _, _, .nilm => .nilm
  | _, _, .map r im h => .map r im (hj _ _ h)
  | _, _, .nilch => .nilch
  | _, _, .func fn f f' c c' h h' => .func fn f f' c c' (VRs.mono hj h) (VRs.mono hj h')
  | _, _, .nilFunc => .nilFunc
  | _, _, .iface t v v' h => .iface t v v' (VR.mono hj h)
  | _, _, .nilIface => .nilIface
  | _, _, .agg cs cs' h => .agg cs cs' (VRs.mono hj h)
  | _, _, .tuple cs cs' h => .tuple cs cs' (VRs.mono hj h)
theorem VRs.mono {j j' : J} (hj : Le j j') : ∀ {l l' : List Value}, VRs j l l' → VRs j' l l'
  | _, _, .nil => .nil
  | _, _, .cons v v' l l' h t => .cons v v' l l' (VR.mono hj h) (VRs.mono hj t)
end

theorem VRs.length {j : J} : ∀ {l l' : List Value}, VRs j l l' → l.length = l'.length
  | _, _, .nil => rfl
  | _, _, .cons _ _ _ _ _ t => by simp [VRs.length t]
theorem VRs.get {j : J} : ∀ {l l' : List Value}, VRs j l l' → ∀ {i : Nat} {v : Value}, l[i]? = some v → ∃ v', l'[i]? = some v' ∧ VR j v v'
  | _, _, .nil, i, v, h => by simp at h
  | _, _, .cons v0 v0' l l' h0 t, 0, v, h => by simp at h; subst h; exact ⟨v0', rfl, h0⟩
  | _, _, .cons v0 v0' l l' h0 t, i + 1, v, h => by simp at h; simpa using VRs.get t h
theorem VRs.get_none {j : J} {l l' : List Value} (h : VRs j l l') {i : Nat} (hi : l[i]? = none) : l'[i]? = none := by
  rw [List.getElem?_eq_none_iff] at *; rw [← h.length]; exact hi
theorem VRs.append {j : J} : ∀ {a a' b b' : List Value}, VRs j a a' → VRs j b b' → VRs j (a ++ b) (a' ++ b')
  | _, _, _, _, .nil, h => h
  | _, _, _, _, .cons v v' l l' h t, k => .cons v v' _ _ h (VRs.append t k)
theorem VRs.take {j : J} : ∀ {l l' : List Value} (n : Nat), VRs j l l' → VRs j (l.take n) (l'.take n)
  | _, _, 0, _ => by simp; exact .nil
  | _, _, n + 1, .nil => by simp; exact .nil
  | _, _, n + 1, .cons v v' l l' h t => by simp; exact .cons _ _ _ _ h (VRs.take n t)
theorem VRs.drop {j : J} : ∀ {l l' : List Value} (n : Nat), VRs j l l' → VRs j (l.drop n) (l'.drop n)
  | _, _, 0, h => by simpa using h
  | _, _, n + 1, .nil => by simp; exact .nil
  | _, _, n + 1, .cons v v' l l' h t => by simpa using VRs.drop n t
theorem VRs.set {j : J} : ∀ {l l' : List Value} (i : Nat) {v v' : Value}, VRs j l l' → VR j v v' → VRs j (l.set i v) (l'.set i v')
  | _, _, i, _, _, .nil, _ => by simp; exact .nil
  | _, _, 0, _, _, .cons v v' l l' h t, k => by simp; exact .cons _ _ _ _ k t
  | _, _, i + 1, _, _, .cons v v' l l' h t, k => by simp; exact .cons _ _ _ _ h (VRs.set i t k)
theorem VRs.of_get {j : J} : ∀ {l l' : List Value}, l.length = l'.length → (∀ (i : Nat) v v', l[i]? = some v → l'[i]? = some v' → VR j v v') → VRs j l l'
  | [], [], _, _ => .nil
  | v :: l, v' :: l', hl, h => .cons v v' l l' (h 0 v v' rfl rfl) (VRs.of_get (by simpa using hl) fun i a a' ha ha' => h (i + 1) a a' (by simpa using ha) (by simpa using ha'))
  | [], _ :: _, hl, _ => by simp at hl
  | _ :: _, [], hl, _ => by simp at hl
theorem VRs.reverse {j : J} : ∀ {l l' : List Value}, VRs j l l' → VRs j l.reverse l'.reverse
  | _, _, .nil => .nil
  | _, _, .cons v v' l l' h t => by
    simp only [List.reverse_cons]
    exact (VRs.reverse t).append (.cons _ _ _ _ h .nil)

/-- a value without an address (a constant of the code) -/
def plain : Value → Bool
  | .bool _ | .int _ _ | .float _ _ | .complex _ _ _ | .string _ | .pointer none | .slice none _ _ | .map none | .chan none | .nilFunc | .nilIface => true
  | _ => false
theorem VR.of_plain {j : J} {v : Value} (h : plain v = true) : VR j v v := by
  cases v with
  | bool b => exact .bool b
  | int k n => exact .int k n
  | float k n => exact .float k n
  | complex k n m => exact .complex k n m
  | string s => exact .string s
  | pointer a => cases a with | none => exact .nilp | some a => simp [plain] at h
  | slice a l c => cases a with | none => exact .nils l c | some a => simp [plain] at h
  | map r => cases r with | none => exact .nilm | some a => simp [plain] at h
  | chan r => cases r with | none => exact .nilch | some a => simp [plain] at h
  | func fn f c => simp [plain] at h
  | nilFunc => exact .nilFunc
  | iface t v => simp [plain] at h
  | nilIface => exact .nilIface
  | agg cs => simp [plain] at h
  | tuple vs => simp [plain] at h
theorem VR.undef {j : J} : VR j undef undef := .tuple _ _ .nil

inductive MRs (j : J) : List MapEntry → List MapEntry → Prop
  | nil : MRs j [] []
  | cons (e e' : MapEntry) (l l' : List MapEntry) (hk : VR j e.key e'.key) (hv : VR j e.val e'.val) (hb : e.born = e'.born) (t : MRs j l l') : MRs j (e :: l) (e' :: l')
theorem MRs.mono {j j' : J} (hj : Le j j') : ∀ {l l' : List MapEntry}, MRs j l l' → MRs j' l l'
  | _, _, .nil => .nil
  | _, _, .cons e e' l l' hk hv hb t => .cons e e' l l' (hk.mono hj) (hv.mono hj) hb (MRs.mono hj t)

/-- the frozen range: (BIG, BIG) stands for the one place behind the row -/
def FrR (sz : Nat) (fr fr' : Nat × Nat) : Prop := if fr = (BIG, BIG) then fr' = (sz, sz + 1) else fr' = fr
/-- an abstract block and the model's object -/
inductive BR (j : J) (sz : Nat) : Blk → Obj → Prop
  | row (cs : List Value) (T : TypeId) (fr fr' : Nat × Nat) (c : Array Value) (hs : c.size = sz) (hf : FrR sz fr fr') (hl : cs.length ≤ sz) (h : VRs j cs (c.toList.take cs.length)) :
      BR j sz (.row cs T fr) (.cells c T fr')
  | map (es : List MapEntry) (es' : Array MapEntry) (clock : Nat) (h : MRs j es es'.toList) : BR j sz (.map es clock) (.map es' clock)
  | iter (s : ByteArray) (pos : Nat) : BR j sz (.iter s pos) (.stringIter s pos)
theorem BR.mono {j j' : J} (hj : Le j j') {sz : Nat} {x : Blk} {o : Obj} (h : BR j sz x o) : BR j' sz x o := by
  cases h with
  | row cs T fr fr' c hs hf hl h => exact .row cs T fr fr' c hs hf hl (h.mono hj)
  | map es es' clock h => exact .map es es' clock (h.mono hj)
  | iter s pos => exact .iter s pos

structure WR (j : J) (σ : Mem) (w : World) : Prop where
  lt : ∀ a im, j a = some im → a < σ.next
  inj : ∀ a a' im im', j a = some im → j a' = some im' → im.b = im'.b → (σ.get a).isSome → (σ.get a').isSome → a = a'
  blk : ∀ a im x, j a = some im → σ.get a = some x → ∃ o, w.heap[im.b]? = some o ∧ BR j im.sz x o
  glob : ∀ g, g < σ.G → ∃ im, j g = some im ∧ im.b = g

theorem WR.sz {j : J} {σ : Mem} {w : World} (h : WR j σ w) {a : Nat} {im : Im} (ha : j a = some im) (hs : (σ.get a).isSome) : im.b < w.heap.size := by
  cases hg : σ.get a with
  | none => simp [hg] at hs
  | some x =>
    obtain ⟨o, ho, _⟩ := h.blk a im x ha hg
    rcases Nat.lt_or_ge im.b w.heap.size with h | h
    · exact h
    · simp [Array.getElem?_eq_none h] at ho

structure Ext (j : J) (σ : Mem) (w : World) (j' : J) (σ' : Mem) (w' : World) : Prop where
  mono : Le j j'
  next : σ.next ≤ σ'.next
  G : σ'.G = σ.G
  os : w'.os = w.os
  tape : w'.tape = w.tape
  output : w'.output = w.output
  size : w.heap.size ≤ w'.heap.size
  fr : ∀ b, b < w.heap.size → (∀ a im, j a = some im → im.b = b → σ.get a = none) → w'.heap[b]? = w.heap[b]?
  live : ∀ a im, j' a = some im → (σ'.get a).isSome → im.b < w.heap.size → ∃ a0 im0, j a0 = some im0 ∧ im0.b = im.b ∧ (σ.get a0).isSome
  dom : ∀ a im, j' a = some im → j a = some im ∨ σ.next ≤ a

theorem Ext.refl (j : J) (σ : Mem) (w : World) : Ext j σ w j σ w :=
  ⟨Le.refl j, Nat.le_refl _, rfl, rfl, rfl, rfl, Nat.le_refl _, fun _ _ _ => rfl, fun a im h hs _ => ⟨a, im, h, rfl, hs⟩, fun _ _ h => .inl h⟩
theorem Ext.trans {j j1 j2 : J} {σ σ1 σ2 : Mem} {w w1 w2 : World} (h : Ext j σ w j1 σ1 w1) (k : Ext j1 σ1 w1 j2 σ2 w2) : Ext j σ w j2 σ2 w2 := by
  refine ⟨h.mono.trans k.mono, Nat.le_trans h.next k.next, k.G.trans h.G, k.os.trans h.os, k.tape.trans h.tape, k.output.trans h.output, Nat.le_trans h.size k.size, ?_, ?_, fun a im ha => ?_⟩
  · intro b hb hn
    rw [k.fr b (Nat.lt_of_lt_of_le hb h.size) ?_, h.fr b hb hn]
    intro a im ha hab
    cases hg : σ1.get a with
    | none => rfl
    | some x =>
      obtain ⟨a0, im0, h0, hb0, hs0⟩ := h.live a im ha (by simp [hg]) (by omega)
      rw [hn a0 im0 h0 (by omega)] at hs0
      simp at hs0
  · intro a im ha hs hlt
    obtain ⟨a1, im1, h1, hb1, hs1⟩ := k.live a im ha hs (Nat.lt_of_lt_of_le hlt h.size)
    obtain ⟨a0, im0, h0, hb0, hs0⟩ := h.live a1 im1 h1 hs1 (by omega)
    exact ⟨a0, im0, h0, by omega, hs0⟩
  · rcases k.dom a im ha with h1 | h1
    · exact h.dom a im h1
    · exact .inr (Nat.le_trans h.next h1)
/-- A draw changes nothing. -/
theorem WR.drawn {j : J} {σ : Mem} {w : World} (h : WR j σ w) (n : Nat) : WR j σ { w with drawn := n } := ⟨h.lt, h.inj, h.blk, h.glob⟩
theorem Ext.drawn (j : J) (σ : Mem) (w : World) (n : Nat) : Ext j σ w j σ { w with drawn := n } :=
  ⟨Le.refl j, Nat.le_refl _, rfl, rfl, rfl, rfl, Nat.le_refl _, fun _ _ _ => rfl, fun a im h hs _ => ⟨a, im, h, rfl, hs⟩, fun _ _ h => .inl h⟩
end Go.Ab
