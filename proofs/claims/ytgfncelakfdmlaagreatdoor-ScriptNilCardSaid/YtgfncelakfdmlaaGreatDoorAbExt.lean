import Derived.Test.YtgfncelakfdmlaaGreatDoorAbCell
import Derived.Laws.LoneSync
import Derived.Lib.Bytealg
/-! Functions without a Go body that are answered: a table of numbers and kinds. -/
namespace Go.Ab
open Go

inductive XKind where
  | same | count | index | mark0 (m : Mark) | marked (m : Addr → Mark) | load (k : IntKind) | store | cas (k : IntKind) | add (k : IntKind)
def XKind.entry : XKind → Array Value → Sem Value
  | .same => Extern.AbiNoEscape.same
  | .count => Extern.BytealgCount.count
  | .index => Extern.BytealgIndexByte.indexByte
  | .mark0 m => fun _ => do Go.mark m; pure Extern.Race.none_
  | .marked m => Extern.Race.marked m
  | .load k => Extern.Atomic.loadT (.int k)
  | .store => Extern.Atomic.storeT
  | .cas k => Extern.Atomic.casT (.int k)
  | .add k => Extern.Atomic.update (Op.intArith .add) k true
def XKind.run (σ : Mem) : XKind → List Value → Option (Value × Mem)
  | .same, [x] => some (x, σ)
  | .count, [.string s, .int .u8 c] => some (.int .i64 (s.data.toList.foldl (fun n x => if x == c.toNat.toUInt8 then n + 1 else n) (0 : Nat)), σ)
  | .index, [.string s, .int .u8 c] => (match (List.range s.size).find? fun i => s[i]! == c.toNat.toUInt8 with
    | some i => some (.int .i64 i, σ)
    | none => some (.int .i64 (-1), σ))
  | .mark0 _, [] => some (.tuple #[], σ)
  | .marked _, [.pointer (some _)] => some (.tuple #[], σ)
  | .load k, [.pointer (some a)] => (match aload σ a with
    | some (.int k' n) => if k' = k then some (.int k n, σ) else none
    | _ => none)
  | .store, [.pointer (some a), .int k n] => (astores σ a [.int k n]).map fun σ' => (.tuple #[], σ')
  | .cas k, [.pointer (some a), .int k1 o, .int k2 n] => if k1 = k && k2 = k then (match aload σ a with
    | some (.int k' m) => if k' = k then (match astores σ a [.int k n] with
        | some σ' => if m = o then some (.bool true, σ') else some (.bool false, σ)
        | none => none) else none
    | _ => none) else none
  | .add k, [.pointer (some a), .int k1 d] => if k1 = k then (match aload σ a with
    | some (.int k' m) => if k' = k then (astores σ a [.int k (k.wrap (m + d))]).map fun σ' => (.int k (k.wrap (m + d)), σ') else none
    | _ => none) else none
  | _, _ => none
def XOK (P : Program) (f : FuncId) (k : XKind) : Prop := ∃ fn, P.funcs[f]? = some fn ∧ (fn.name == "runtime.NumGoroutine") = false ∧ fn.body.isNone = true ∧ Extern.findNext fn = none ∧ Extern.find fn = some k.entry

variable {P : Program} {j : J} {σ : Mem} {w : World}
theorem VRs.one_inv {x : Value} {l : List Value} (h : VRs j [x] l) : ∃ x', l = [x'] ∧ VR j x x' := by
  cases h with | cons _ x' _ _ h t => cases t; exact ⟨x', rfl, h⟩
theorem VRs.two_inv {x y : Value} {l : List Value} (h : VRs j [x, y] l) : ∃ x' y', l = [x', y'] ∧ VR j x x' ∧ VR j y y' := by
  cases h with | cons _ x' _ _ h t => obtain ⟨y', rfl, k⟩ := t.one_inv; exact ⟨x', y', rfl, h, k⟩
theorem VRs.three_inv {x y z : Value} {l : List Value} (h : VRs j [x, y, z] l) : ∃ x' y' z', l = [x', y', z'] ∧ VR j x x' ∧ VR j y y' ∧ VR j z z' := by
  cases h with | cons _ x' _ _ h t => obtain ⟨y', z', rfl, k1, k2⟩ := t.two_inv; exact ⟨x', y', z', rfl, h, k1, k2⟩
theorem cell_ok (h : WR j σ w) {p : Addr} {im : Im} (hj : j p.block = some im) {k : IntKind} {n : Int} (hl : aload σ p = some (.int k n)) : w.cell? { p with block := im.b } = some (.int k n) := by
  obtain ⟨v', h1, h2⟩ := load_ok h hj hl
  rw [h1, h2.int_inv]
theorem XKind.run_ok {k : XKind} {f : FuncId} (hk : XOK P f k) (h : WR j σ w) {args : List Value} {args' : Array Value} (hv : VRs j args args'.toList) {r : Value × Mem} (hl : k.run σ args = some r) :
    NR j σ w (.val r.1 r.2) ((callFunc f args').run P w) := by
  obtain ⟨fn, hf, hname, hb, hn, he⟩ := hk
  obtain ⟨args'⟩ := args'
  simp only at hv
  unfold XKind.run at hl
  split at hl
  · cases hl
    obtain ⟨x', rfl, hx⟩ := hv.one_inv
    rw [run_callFunc_extern hf hname hb hn he]
    exact .val _ _ _ _ j h (Ext.refl _ _ _) hx
  · rename_i s c
    cases hl
    obtain ⟨x', y', rfl, hx, hy⟩ := hv.two_inv
    obtain rfl := hx.string_inv
    obtain rfl := hy.int_inv
    rw [run_callFunc_extern hf hname hb hn he]
    have e1 : XKind.count.entry ⟨[.string s, .int .u8 c]⟩ = (pure (goInt (s.foldl (fun n x => if x == c.toNat.toUInt8 then n + 1 else n) (0 : Nat))) : Sem Value) := rfl
    rw [e1, Lib.foldl_data]
    simp only [Sem.run_pure, Result.andThen_ok, goInt]
    exact .val _ _ _ _ j h (Ext.refl _ _ _) (.int _ _)
  · rename_i s c
    obtain ⟨x', y', rfl, hx, hy⟩ := hv.two_inv
    obtain rfl := hx.string_inv
    obtain rfl := hy.int_inv
    rw [run_callFunc_extern hf hname hb hn he]
    have e1 : XKind.index.entry ⟨[.string s, .int .u8 c]⟩ = (match (List.range s.size).find? fun i => s[i]! == c.toNat.toUInt8 with
      | some i => pure (goInt i)
      | none => pure (goInt (-1)) : Sem Value) := rfl
    rw [e1]
    split at hl
    · rename_i i hi
      cases hl
      simp only [Sem.run_pure, Result.andThen_ok, goInt]
      exact .val _ _ _ _ j h (Ext.refl _ _ _) (.int _ _)
    · rename_i hi
      cases hl
      simp only [Sem.run_pure, Result.andThen_ok, goInt]
      exact .val _ _ _ _ j h (Ext.refl _ _ _) (.int _ _)
  · cases hl
    cases hv
    rw [run_call_mark0 hf hname hb hn _ he]
    exact .val _ _ _ _ j h (Ext.refl _ _ _) (.tuple _ _ .nil)
  · cases hl
    obtain ⟨x', rfl, hx⟩ := hv.one_inv
    obtain ⟨im, hj, rfl⟩ := hx.ptr_inv
    rw [run_call_marked hf hname hb hn _ he]
    exact .val _ _ _ _ j h (Ext.refl _ _ _) (.tuple _ _ .nil)
  · rename_i k a
    split at hl
    · rename_i k' n hld
      split at hl
      · rename_i hkk
        subst hkk
        cases hl
        obtain ⟨x', rfl, hx⟩ := hv.one_inv
        obtain ⟨im, hj, rfl⟩ := hx.ptr_inv
        rw [run_call_load hf hname hb hn _ he (cell_ok h hj hld)]
        exact .val _ _ _ _ j h (Ext.refl _ _ _) (.int _ _)
      · cases hl
    · cases hl
  · rename_i a k n
    simp only [Option.map_eq_some_iff] at hl
    obtain ⟨σ', hs, rfl⟩ := hl
    obtain ⟨x', y', rfl, hx, hy⟩ := hv.two_inv
    obtain ⟨im, hj, rfl⟩ := hx.ptr_inv
    obtain rfl := hy.int_inv
    obtain ⟨⟨old, ho⟩, hz, h1, h2⟩ := setCell_ok h hj hs (.int k n)
    rw [run_call_store hf hname hb hn he ho hz]
    exact .val _ _ _ _ j h1 h2 (.tuple _ _ .nil)
  · rename_i k a k1 o k2 n
    split at hl
    · rename_i hkk
      simp only [Bool.and_eq_true, decide_eq_true_eq] at hkk
      obtain ⟨rfl, rfl⟩ := hkk
      split at hl
      · rename_i k' m hld
        split at hl
        · rename_i hk'
          subst hk'
          split at hl
          · rename_i σ' hs
            obtain ⟨x', y', z', rfl, hx, hy, hz⟩ := hv.three_inv
            obtain ⟨im, hj, rfl⟩ := hx.ptr_inv
            obtain rfl := hy.int_inv
            obtain rfl := hz.int_inv
            have hc := cell_ok h hj hld
            obtain ⟨_, hfz, h1, h2⟩ := setCell_ok h hj hs (.int k' n)
            split at hl
            · rename_i hm
              subst hm
              cases hl
              rw [run_call_cas_hit hf hname hb hn _ he hc hfz]
              exact .val _ _ _ _ j h1 h2 (.bool _)
            · rename_i hm
              cases hl
              rw [run_call_cas_miss hf hname hb hn _ he hc hfz hm]
              exact .val _ _ _ _ j h (Ext.refl _ _ _) (.bool _)
          · cases hl
        · cases hl
      · cases hl
    · cases hl
  · rename_i k a k1 d
    split at hl
    · rename_i hkk
      subst hkk
      split at hl
      · rename_i k' m hld
        split at hl
        · rename_i hk'
          subst hk'
          simp only [Option.map_eq_some_iff] at hl
          obtain ⟨σ', hs, rfl⟩ := hl
          obtain ⟨x', y', rfl, hx, hy⟩ := hv.two_inv
          obtain ⟨im, hj, rfl⟩ := hx.ptr_inv
          obtain rfl := hy.int_inv
          obtain ⟨_, hfz, h1, h2⟩ := setCell_ok h hj hs (.int k' (k'.wrap (m + d)))
          rw [run_call_add hf hname hb hn _ he (cell_ok h hj hld) hfz (s := k'.wrap (m + d)) (by simp [Op.intArith])]
          exact .val _ _ _ _ j h1 h2 (.int _ _)
        · cases hl
      · cases hl
    · cases hl
  · cases hl

def xtab : List (FuncId × XKind) → AExt
  | [], _, _, _ => none
  | p :: l, f, args, σ => if f = p.1 then p.2.run σ args else xtab l f args σ
theorem xtab_ok : ∀ {l : List (FuncId × XKind)}, (∀ p ∈ l, XOK P p.1 p.2) → ExtOK P (xtab l)
  | [], _ => by intro k args σ r h; cases h
  | p :: l, hp => by
    intro f args σ r hl j w args' hw hv
    simp only [xtab] at hl
    split at hl
    · rename_i hf
      subst hf
      exact XKind.run_ok (hp p (by simp)) hw hv hl
    · exact xtab_ok (fun q hq => hp q (by simp [hq])) f args σ r hl j w args' hw hv
end Go.Ab
