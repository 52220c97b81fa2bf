import Derived.Test.YtgfncelakfdmlaaGreatDoorAbDraw
/-! Equality of values, decided. -/
namespace Go.Ab
open Go
mutual
def veq : Value → Value → Bool
  | .bool a, .bool b => a == b
  | .int k a, .int k' b => decide (k = k') && decide (a = b)
  | .string a, .string b => a.data.toList == b.data.toList
  | .pointer a, .pointer b => decide (a = b)
  | .slice a l c, .slice b l' c' => decide (a = b) && decide (l = l') && decide (c = c')
  | .map a, .map b => decide (a = b)
  | .func fn ⟨f⟩ ⟨c⟩, .func fn' ⟨f'⟩ ⟨c'⟩ => decide (fn = fn') && veqs f f' && veqs c c'
  | .nilFunc, .nilFunc => true
  | .iface t v, .iface t' v' => decide (t = t') && veq v v'
  | .nilIface, .nilIface => true
  | .agg ⟨l⟩, .agg ⟨l'⟩ => veqs l l'
  | .tuple ⟨l⟩, .tuple ⟨l'⟩ => veqs l l'
  | _, _ => false
def veqs : List Value → List Value → Bool
  | [], [] => true
  | v :: l, v' :: l' => veq v v' && veqs l l'
  | _, _ => false
end
mutual
theorem veq_eq : ∀ {v v' : Value}, veq v v' = true → v = v'
  | .bool a, v', h => by cases v' <;> simp [veq] at h; rw [h]
  | .int k a, v', h => by cases v' <;> simp [veq] at h; rw [h.1, h.2]
  | .float k a, v', h => by cases v' <;> simp [veq] at h
  | .complex k a b, v', h => by cases v' <;> simp [veq] at h
  | .string a, v', h => by
    cases v' <;> simp [veq] at h
    congr 1; exact ByteArray.ext h
  | .pointer a, v', h => by cases v' <;> simp [veq] at h; rw [h]
  | .slice a l c, v', h => by cases v' <;> simp [veq] at h; obtain ⟨⟨h1, h2⟩, h3⟩ := h; rw [h1, h2, h3]
  | .map a, v', h => by cases v' <;> simp [veq] at h; rw [h]
  | .chan a, v', h => by cases v' <;> simp [veq] at h
  | .func fn ⟨f⟩ ⟨c⟩, v', h => by
    cases v' with
    | func fn' f' c' =>
      obtain ⟨f'⟩ := f'; obtain ⟨c'⟩ := c'
      simp [veq] at h
      obtain ⟨⟨h1, h2⟩, h3⟩ := h
      rw [h1, veqs_eq h2, veqs_eq h3]
    | _ => simp [veq] at h
  | .nilFunc, v', h => by cases v' <;> simp [veq] at h; rfl
  | .iface t v, v', h => by
    cases v' with
    | iface t' u => simp [veq] at h; rw [h.1, veq_eq h.2]
    | _ => simp [veq] at h
  | .nilIface, v', h => by cases v' <;> simp [veq] at h; rfl
  | .agg ⟨l⟩, v', h => by
    cases v' with
    | agg l' => obtain ⟨l'⟩ := l'; simp [veq] at h; rw [veqs_eq h]
    | _ => simp [veq] at h
  | .tuple ⟨l⟩, v', h => by
    cases v' with
    | tuple l' => obtain ⟨l'⟩ := l'; simp [veq] at h; rw [veqs_eq h]
    | _ => simp [veq] at h
theorem veqs_eq : ∀ {l l' : List Value}, veqs l l' = true → l = l'
  | [], l', h => by cases l' <;> simp [veqs] at h; rfl
  | v :: l, l', h => by
    cases l' with
    | nil => simp [veqs] at h
    | cons v' l' => simp [veqs] at h; rw [veq_eq h.1, veqs_eq h.2]
end
def blkEq : Blk → Blk → Bool
  | .row cs T fr, .row cs' T' fr' => veqs cs cs' && decide (T = T') && decide (fr = fr')
  | _, _ => false
theorem blkEq_eq {x y : Blk} (h : blkEq x y = true) : x = y := by
  cases x <;> cases y <;> simp [blkEq] at h
  obtain ⟨⟨h1, h2⟩, h3⟩ := h
  rw [veqs_eq h1, h2, h3]
end Go.Ab
