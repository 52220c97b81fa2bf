import Derived.Test.YtgfncelakfdmlaaGreatDoorAbExt
/-! From a closed run to a contract for every world. -/
namespace Go.Ab
open Go

def isTrue : Option (AEnd × Mem) → Bool
  | some (.ret (.bool b), _) => b
  | _ => false
theorem isTrue_spec {r : Option (AEnd × Mem)} (h : isTrue r = true) : ∃ σ', r = some (.ret (.bool true), σ') := by
  unfold isTrue at h
  split at h
  · subst h; exact ⟨_, rfl⟩
  · cases h
/-- nothing that was there is touched -/
structure Kept (W W' : World) : Prop where
  os : W'.os = W.os
  tape : W'.tape = W.tape
  output : W'.output = W.output
  size : W.heap.size ≤ W'.heap.size
  heap : ∀ b, b < W.heap.size → W'.heap[b]? = W.heap[b]?
theorem Kept.refl (W : World) : Kept W W := ⟨rfl, rfl, rfl, Nat.le_refl _, fun _ _ => rfl⟩
theorem Kept.trans {a b c : World} (h : Kept a b) (k : Kept b c) : Kept a c :=
  ⟨k.os.trans h.os, k.tape.trans h.tape, k.output.trans h.output, Nat.le_trans h.size k.size, fun x hx => (k.heap x (Nat.lt_of_lt_of_le hx h.size)).trans (h.heap x hx)⟩
theorem Kept.frozen {W W' : World} (h : Kept W W') {a : Addr} (ha : a.block < W.heap.size) : W'.frozen? a = W.frozen? a := by
  simp only [World.frozen?, h.heap a.block ha]
theorem Kept.cell {W W' : World} (h : Kept W W') {a : Addr} (ha : a.block < W.heap.size) : W'.cell? a = W.cell? a := by
  simp only [World.cell?, h.heap a.block ha]
theorem Kept.keptBut {W W' : World} (h : Kept W W') (may : MemPlace → Prop) : W.keptBut W' may := by
  refine ⟨h.os, h.output, fun i hi => ?_⟩
  rw [h.heap i hi]
  cases hx : W.heap[i]? with
  | none => trivial
  | some o => cases o <;> simp

variable {P : Program}
/-- a run from no memory at all holds in every world, and touches nothing that is there -/
theorem calls_of_run {call : ACall} (hcall : CallOK P call) {f : FuncId} {args : List Value} (G next : Nat) (hn : G ≤ next) (hp : args.all plain = true) {r : AEnd} {σ' : Mem} (hrun : call f args ⟨next, G, .nil⟩ = some (r, σ')) (W : World) :
    Calls P f args.toArray W fun e W' => (∃ j', EndR j' r e) ∧ Kept W W' := by
  have hw : WR (fun g => if g < G then some ⟨g, 0⟩ else none) ⟨next, G, .nil⟩ W := by
    refine ⟨fun a im ha => ?_, fun a a' im im' _ _ _ s => ?_, fun a im x _ hx => ?_, fun g hg => ⟨⟨g, 0⟩, if_pos hg, rfl⟩⟩
    · split at ha
      · simp only; omega
      · cases ha
    · rw [get_empty] at s; simp at s
    · rw [get_empty] at hx; cases hx
  refine (hcall f args _ r σ' hrun _ W args.toArray hw (by simpa using VRs.of_plain hp)).mono fun e W' he => ?_
  obtain ⟨j', h1, h2, h3⟩ := he
  exact ⟨⟨j', h1⟩, h3.os, h3.tape, h3.output, h3.size, fun b hb => h3.fr b hb fun a im _ _ => get_empty _ _ _⟩
theorem calls_true {call : ACall} (hcall : CallOK P call) {f : FuncId} {args : List Value} (G next : Nat) (hn : G ≤ next) (hp : args.all plain = true) (hrun : isTrue (call f args ⟨next, G, .nil⟩) = true) (W : World) :
    Calls P f args.toArray W fun e W' => e = .returned (.bool true) ∧ Kept W W' := by
  obtain ⟨σ', hr⟩ := isTrue_spec hrun
  refine (calls_of_run hcall G next hn hp hr W).mono fun e W' he => ?_
  obtain ⟨⟨j', h1⟩, h2⟩ := he
  refine ⟨?_, h2⟩
  cases h1 with
  | ret _ v' hv => rw [hv.bool_inv]
end Go.Ab
