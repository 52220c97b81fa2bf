import Derived.Test.YtgfncelakfdmlaaGreatDoorAbMemo
/-! The facts that the run's theorem asks of a program, decided. -/
namespace Go.Ab
open Go

def goodAt (P : Program) (i : Nat) : Bool := match P.funcs[i]? with
  | some fn => (match fn.body with
    | some c => codeOK P c
    | none => true)
  | none => true
def goodB (P : Program) (M : Nat) (from_ n : Nat) : Bool := (List.range n).all fun i => !M.testBit (from_ + i) || goodAt P (from_ + i)
theorem good_of {P : Program} {M : Nat} (h : goodB P M 0 P.funcs.size = true) : Good P M := by
  intro f fn c hb hf hc
  have hlt : f < P.funcs.size := by
    rcases Nat.lt_or_ge f P.funcs.size with h | h
    · exact h
    · simp [Array.getElem?_eq_none h] at hf
  have := range_all h f hlt
  simp only [Nat.zero_add, hb, Bool.not_true, Bool.false_or, goodAt, hf, hc] at this
  exact this
theorem goodB_add {P : Program} {M a b c : Nat} (h : goodB P M a b = true) (k : goodB P M (a + b) c = true) : goodB P M a (b + c) = true := by
  simp only [goodB, List.all_eq_true, List.mem_range] at *
  intro i hi
  by_cases hb : i < b
  · exact h i hb
  · have := k (i - b) (by omega)
    rwa [show a + b + (i - b) = a + i by omega] at this
theorem good_of_size {P : Program} {M n : Nat} (hn : P.funcs.size = n) (h : goodB P M 0 n = true) : Good P M := by
  subst hn; exact good_of h
def nongB (P : Program) : Bool := P.funcs.toList.all fun fn => !(fn.name == "runtime.NumGoroutine")
theorem nong_of {P : Program} (h : nongB P = true) {X : AExt} (hx : ExtOK P X) : NoNG P X := by
  refine ⟨fun f fn hf => ?_, hx⟩
  have := List.all_eq_true.1 h fn (by
    have := Array.mem_of_getElem? hf
    simpa using this)
  simpa using this
def noX : AExt := fun _ _ _ => none
theorem noX_ok (P : Program) : ExtOK P noX := by intro k args σ r h; cases h
def noCall : ACall := fun _ _ _ => none
theorem noCall_ok (P : Program) : CallOK P noCall := by intro f args σ r σ' h; cases h
def bytesOf (l : List Nat) : ByteArray := ⟨(l.map UInt8.ofNat).toArray⟩
end Go.Ab
