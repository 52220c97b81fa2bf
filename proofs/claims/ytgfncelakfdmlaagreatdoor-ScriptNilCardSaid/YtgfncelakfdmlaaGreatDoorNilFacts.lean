/- What the run of a closed call asks of this program: the functions that it enters (their drawing regions pass the check), the functions without a body that are answered. Printed by facts.py. -/
import Derived.Test.YtgfncelakfdmlaaGreatDoorProg
import Derived.Test.YtgfncelakfdmlaaGreatDoorAbClaim
import Derived.KernelRfl
namespace Go.Proofs.YtgfncelakfdmlaaGreatDoor
open Go Go.Ab

noncomputable abbrev abProg : Program := Tryz.prog
def abSet : Nat := 2 ^ 4 + 2 ^ 6 + 2 ^ 5 + 2 ^ 21 + 2 ^ 23 + 2 ^ 24 + 2 ^ 25 + 2 ^ 26 + 2 ^ 7 + 2 ^ 8 + 2 ^ 10 + 2 ^ 20 + 2 ^ 22 + 2 ^ 49 + 2 ^ 47 + 2 ^ 50 + 2 ^ 27 + 2 ^ 28 + 2 ^ 29 + 2 ^ 30 + 2 ^ 31 + 2 ^ 35 + 2 ^ 36 + 2 ^ 39 + 2 ^ 43 + 2 ^ 46 + 2 ^ 48 + 2 ^ 72 + 2 ^ 73 + 2 ^ 51 + 2 ^ 52 + 2 ^ 53 + 2 ^ 55 + 2 ^ 56 + 2 ^ 62 + 2 ^ 67 + 2 ^ 68 + 2 ^ 69 + 2 ^ 70 + 2 ^ 79 + 2 ^ 80 + 2 ^ 117 + 2 ^ 75 + 2 ^ 76 + 2 ^ 81 + 2 ^ 84 + 2 ^ 110 + 2 ^ 111 + 2 ^ 112 + 2 ^ 113 + 2 ^ 171 + 2 ^ 123 + 2 ^ 122 + 2 ^ 118 + 2 ^ 173 + 2 ^ 174 + 2 ^ 175 + 2 ^ 176 + 2 ^ 177 + 2 ^ 178 + 2 ^ 241 + 2 ^ 184 + 2 ^ 242 + 2 ^ 243 + 2 ^ 244 + 2 ^ 245 + 2 ^ 246 + 2 ^ 299 + 2 ^ 304 + 2 ^ 305 + 2 ^ 412 + 2 ^ 3
def abTab : List (FuncId × XKind) := [(74, .same), (116, .count), (188, .index), (298, .mark0 .disable), (300, .mark0 .enable), (301, .marked .acquire), (303, .marked .releaseMerge), (304, .add .i32), (299, .cas .i32), (173, .load .u32), (244, .store)]
theorem abGood : Go.Ab.Good abProg abSet := Go.Ab.good_of_size (n := 559) (by kernel_rfl) (by kernel_rfl)
theorem abMixed : abProg.follows .mixedOrders = true := by kernel_rfl
theorem abX0 : XOK abProg 74 (.same) := ⟨_, (by kernel_rfl : abProg.funcs[74]? = some Tryz.f74), by kernel_rfl, by kernel_rfl, by kernel_rfl, by kernel_rfl⟩
theorem abX1 : XOK abProg 116 (.count) := ⟨_, (by kernel_rfl : abProg.funcs[116]? = some Tryz.f116), by kernel_rfl, by kernel_rfl, by kernel_rfl, by kernel_rfl⟩
theorem abX2 : XOK abProg 188 (.index) := ⟨_, (by kernel_rfl : abProg.funcs[188]? = some Tryz.f188), by kernel_rfl, by kernel_rfl, by kernel_rfl, by kernel_rfl⟩
theorem abX3 : XOK abProg 298 (.mark0 .disable) := ⟨_, (by kernel_rfl : abProg.funcs[298]? = some Tryz.f298), by kernel_rfl, by kernel_rfl, by kernel_rfl, by kernel_rfl⟩
theorem abX4 : XOK abProg 300 (.mark0 .enable) := ⟨_, (by kernel_rfl : abProg.funcs[300]? = some Tryz.f300), by kernel_rfl, by kernel_rfl, by kernel_rfl, by kernel_rfl⟩
theorem abX5 : XOK abProg 301 (.marked .acquire) := ⟨_, (by kernel_rfl : abProg.funcs[301]? = some Tryz.f301), by kernel_rfl, by kernel_rfl, by kernel_rfl, by kernel_rfl⟩
theorem abX6 : XOK abProg 303 (.marked .releaseMerge) := ⟨_, (by kernel_rfl : abProg.funcs[303]? = some Tryz.f303), by kernel_rfl, by kernel_rfl, by kernel_rfl, by kernel_rfl⟩
theorem abX7 : XOK abProg 304 (.add .i32) := ⟨_, (by kernel_rfl : abProg.funcs[304]? = some Tryz.f304), by kernel_rfl, by kernel_rfl, by kernel_rfl, by kernel_rfl⟩
theorem abX8 : XOK abProg 299 (.cas .i32) := ⟨_, (by kernel_rfl : abProg.funcs[299]? = some Tryz.f299), by kernel_rfl, by kernel_rfl, by kernel_rfl, by kernel_rfl⟩
theorem abX9 : XOK abProg 173 (.load .u32) := ⟨_, (by kernel_rfl : abProg.funcs[173]? = some Tryz.f173), by kernel_rfl, by kernel_rfl, by kernel_rfl, by kernel_rfl⟩
theorem abX10 : XOK abProg 244 (.store) := ⟨_, (by kernel_rfl : abProg.funcs[244]? = some Tryz.f244), by kernel_rfl, by kernel_rfl, by kernel_rfl, by kernel_rfl⟩
theorem abNong : Go.Ab.NoNG abProg (xtab abTab) := Go.Ab.nong_of (by kernel_rfl) (xtab_ok (by
  intro p hp
  simp only [abTab, List.mem_cons, List.not_mem_nil, or_false] at hp
  rcases hp with rfl | rfl | rfl | rfl | rfl | rfl | rfl | rfl | rfl | rfl | rfl
  · exact abX0
  · exact abX1
  · exact abX2
  · exact abX3
  · exact abX4
  · exact abX5
  · exact abX6
  · exact abX7
  · exact abX8
  · exact abX9
  · exact abX10
  ))
end Go.Proofs.YtgfncelakfdmlaaGreatDoor
