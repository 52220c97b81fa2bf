import Derived.Calls
/-! The abstract memory: a trie keyed by the bits of a number. -/
namespace Go.Ab
open Go

def pathF : Nat → Nat → List Bool
  | 0, _ => []
  | f + 1, n => if n = 0 then [] else (n % 2 == 0) :: pathF f ((n - 1) / 2)
def path (n : Nat) : List Bool := pathF n n

def unpath : List Bool → Nat
  | [] => 0
  | b :: p => 2 * unpath p + (if b then 2 else 1)

theorem unpath_pathF : ∀ (f n : Nat), n ≤ f → unpath (pathF f n) = n
  | 0, n, h => by simp [pathF, unpath]; omega
  | f + 1, n, h => by
    unfold pathF
    by_cases h0 : n = 0
    · simp [h0, unpath]
    · rw [if_neg h0]
      simp only [unpath]
      rw [unpath_pathF f ((n - 1) / 2) (by omega)]
      by_cases h2 : n % 2 = 0 <;> simp [h2] <;> omega

theorem path_inj {a b : Nat} (h : path a = path b) : a = b := by
  have ha := unpath_pathF a a (Nat.le_refl _)
  have hb := unpath_pathF b b (Nat.le_refl _)
  unfold path at h
  rw [h, hb] at ha
  exact ha.symm

inductive Trie (α : Type) where
  | nil
  | node (v : Option α) (l r : Trie α)

namespace Trie
variable {α : Type}
def get : Trie α → List Bool → Option α
  | .nil, _ => none
  | .node v _ _, [] => v
  | .node _ l _, true :: p => l.get p
  | .node _ _ r, false :: p => r.get p
def put (x : Option α) : Trie α → List Bool → Trie α
  | .nil, [] => .node x .nil .nil
  | .node _ l r, [] => .node x l r
  | .nil, true :: p => .node none (put x .nil p) .nil
  | .nil, false :: p => .node none .nil (put x .nil p)
  | .node v l r, true :: p => .node v (put x l p) r
  | .node v l r, false :: p => .node v l (put x r p)

theorem get_put_same (x : Option α) : ∀ (p : List Bool) (t : Trie α), (t.put x p).get p = x
  | [], .nil => rfl
  | [], .node _ _ _ => rfl
  | true :: p, .nil => get_put_same x p .nil
  | false :: p, .nil => get_put_same x p .nil
  | true :: p, .node _ l _ => get_put_same x p l
  | false :: p, .node _ _ r => get_put_same x p r
theorem get_nil (p : List Bool) : (Trie.nil : Trie α).get p = none := by cases p <;> rfl
theorem get_put_ne (x : Option α) : ∀ (p q : List Bool) (t : Trie α), p ≠ q → (t.put x p).get q = t.get q
  | [], [], t, h => absurd rfl h
  | [], true :: q, .nil, _ => by simp [put, get, get_nil]
  | [], false :: q, .nil, _ => by simp [put, get, get_nil]
  | [], true :: q, .node _ _ _, _ => rfl
  | [], false :: q, .node _ _ _, _ => rfl
  | true :: p, [], .nil, _ => rfl
  | false :: p, [], .nil, _ => rfl
  | true :: p, [], .node _ _ _, _ => rfl
  | false :: p, [], .node _ _ _, _ => rfl
  | true :: p, true :: q, .nil, h => by simpa [put, get, get_nil] using get_put_ne x p q .nil (by simpa using h)
  | true :: p, false :: q, .nil, _ => by simp [put, get, get_nil]
  | false :: p, true :: q, .nil, _ => by simp [put, get, get_nil]
  | false :: p, false :: q, .nil, h => by simpa [put, get, get_nil] using get_put_ne x p q .nil (by simpa using h)
  | true :: p, true :: q, .node _ l _, h => get_put_ne x p q l (by simpa using h)
  | true :: p, false :: q, .node _ _ _, _ => rfl
  | false :: p, true :: q, .node _ _ _, _ => rfl
  | false :: p, false :: q, .node _ _ r, h => get_put_ne x p q r (by simpa using h)
end Trie

/-- The blocks of the abstract memory. -/
inductive Blk where
  | row (cs : List Value) (T : TypeId) (fr : Nat × Nat)
  | map (es : List MapEntry) (clock : Nat)
  | iter (s : ByteArray) (pos : Nat)

structure Mem where
  next : Nat
  G : Nat
  tr : Trie Blk

namespace Mem
def get (m : Mem) (b : Nat) : Option Blk := m.tr.get (path b)
def set (m : Mem) (b : Nat) (x : Blk) : Mem := { m with tr := m.tr.put (some x) (path b) }
def kill (m : Mem) (b : Nat) : Mem := { m with tr := m.tr.put none (path b) }
def new (m : Mem) (x : Blk) : Mem := { m with next := m.next + 1, tr := m.tr.put (some x) (path m.next) }

theorem get_set (m : Mem) (b b' : Nat) (x : Blk) : (m.set b x).get b' = if b = b' then some x else m.get b' := by
  unfold get set
  by_cases h : b = b'
  · subst h; simp [Trie.get_put_same]
  · rw [if_neg h]; exact Trie.get_put_ne _ _ _ _ fun e => h (path_inj e)
theorem get_kill (m : Mem) (b b' : Nat) : (m.kill b).get b' = if b = b' then none else m.get b' := by
  unfold get kill
  by_cases h : b = b'
  · subst h; simp [Trie.get_put_same]
  · rw [if_neg h]; exact Trie.get_put_ne _ _ _ _ fun e => h (path_inj e)
theorem get_new (m : Mem) (b' : Nat) (x : Blk) : (m.new x).get b' = if m.next = b' then some x else m.get b' := by
  unfold get new
  by_cases h : m.next = b'
  · subst h; simp [Trie.get_put_same]
  · rw [if_neg h]; exact Trie.get_put_ne _ _ _ _ fun e => h (path_inj e)
@[simp] theorem next_set (m : Mem) (b : Nat) (x : Blk) : (m.set b x).next = m.next := rfl
@[simp] theorem next_kill (m : Mem) (b : Nat) : (m.kill b).next = m.next := rfl
@[simp] theorem next_new (m : Mem) (x : Blk) : (m.new x).next = m.next + 1 := rfl
@[simp] theorem G_set (m : Mem) (b : Nat) (x : Blk) : (m.set b x).G = m.G := rfl
@[simp] theorem G_kill (m : Mem) (b : Nat) : (m.kill b).G = m.G := rfl
@[simp] theorem G_new (m : Mem) (x : Blk) : (m.new x).G = m.G := rfl
end Mem

/-- The temporaries of a frame. -/
structure Tm where
  sz : Nat
  tr : Trie Value
namespace Tm
def get (t : Tm) (i : Nat) : Value := (t.tr.get (path i)).getD undef
def set (t : Tm) (i : Nat) (v : Value) : Tm := if i < t.sz then { t with tr := t.tr.put (some v) (path i) } else t
theorem get_set (t : Tm) (i k : Nat) (v : Value) : (t.set i v).get k = if i = k ∧ i < t.sz then v else t.get k := by
  unfold get set
  by_cases hi : i < t.sz
  · simp only [hi, if_true, and_true]
    by_cases h : i = k
    · subst h; simp [Trie.get_put_same]
    · rw [if_neg h, Trie.get_put_ne _ _ _ _ fun e => h (path_inj e)]
  · simp [hi]
@[simp] theorem sz_set (t : Tm) (i : Nat) (v : Value) : (t.set i v).sz = t.sz := by unfold set; split <;> rfl
def ofList (n : Nat) (l : List Value) : Tm := go 0 l { sz := n, tr := .nil }
where go : Nat → List Value → Tm → Tm
  | _, [], t => t
  | i, v :: l, t => go (i + 1) l (t.set i v)
theorem sz_go : ∀ (l : List Value) (i : Nat) (t : Tm), (ofList.go i l t).sz = t.sz
  | [], _, _ => rfl
  | _ :: l, i, t => by simp [ofList.go, sz_go l]
@[simp] theorem sz_ofList (n : Nat) (l : List Value) : (ofList n l).sz = n := by simp [ofList, sz_go]
theorem get_go : ∀ (l : List Value) (i : Nat) (t : Tm) (k : Nat), i + l.length ≤ t.sz →
    (ofList.go i l t).get k = if i ≤ k ∧ k < i + l.length then l.getD (k - i) undef else t.get k
  | [], i, t, k, _ => by
    have : ¬ (i ≤ k ∧ k < i + ([] : List Value).length) := by simp only [List.length_nil]; omega
    rw [if_neg this]; rfl
  | v :: l, i, t, k, h => by
    simp only [List.length_cons] at h
    simp only [ofList.go]
    rw [get_go l (i + 1) _ k (by simp; omega), get_set]
    by_cases h1 : i + 1 ≤ k ∧ k < i + 1 + l.length
    · rw [if_pos h1, if_pos (by simp; omega)]
      have : k - i = (k - (i + 1)) + 1 := by omega
      rw [this]; rfl
    · rw [if_neg h1]
      by_cases h2 : i = k
      · subst h2
        rw [if_pos ⟨rfl, by omega⟩, if_pos (by simp)]
        simp
      · rw [if_neg (by simp [h2]), if_neg (by simp; omega)]
theorem get_ofList (n : Nat) (l : List Value) (h : l.length ≤ n) (k : Nat) : (ofList n l).get k = l.getD k undef := by
  unfold ofList
  rw [get_go l 0 _ k (by simpa using h)]
  by_cases hk : k < l.length
  · rw [if_pos (by simpa using hk)]; simp
  · rw [if_neg (by simpa using hk)]
    rw [List.getD, List.getElem?_eq_none (by omega)]
    simp [get, Trie.get_nil]
end Tm
end Go.Ab
