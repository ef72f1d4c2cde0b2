/- ImageNew answers true for every number of words, whatever lies in memory, where the listed package variables hold what the program's text lays in them. This text is a part of that proof. -/
import Derived.Test.YtdgpahkdoponiaaGreatDoorSt1
namespace Go.Ev
open Go.Proofs L
set_option linter.unusedVariables false
set_option maxRecDepth 100000

/-! Pieces of the run. -/
theorem s0_run (V : SV) : keepS [0, 1, 2, 3, 8, 9, 11, 12, 137, 139, 142, 143, 225, 254, 283, 312, 341, 378, 380, 409, 438, 440, 441, 442, 443, 516, 517, 519, 522, 523, 526, 527, 528, 529] (arun (C0 V) 20000 s0) = s1 := by kernel_rfl
theorem s0_sim (V : SV) : Sim (C0 V) s0 s1 := Sim.piece 20000 [0, 1, 2, 3, 8, 9, 11, 12, 137, 139, 142, 143, 225, 254, 283, 312, 341, 378, 380, 409, 438, 440, 441, 442, 443, 516, 517, 519, 522, 523, 526, 527, 528, 529] (s0_run V)

theorem s1_run (V : SV) : keepS [0, 1, 2, 3, 8, 9, 11, 12, 137, 139, 142, 143, 225, 254, 283, 312, 341, 378, 380, 409, 438, 440, 441, 442, 443, 707, 788, 795, 797, 798, 799, 801, 802, 805, 806, 807, 808, 809, 811, 813, 815, 816, 817, 818, 819, 820, 821, 823, 844, 845] (arun (C0 V) 8460 s1) = s2 := by kernel_rfl
theorem s1_sim (V : SV) : Sim (C0 V) s1 s2 := Sim.piece 8460 [0, 1, 2, 3, 8, 9, 11, 12, 137, 139, 142, 143, 225, 254, 283, 312, 341, 378, 380, 409, 438, 440, 441, 442, 443, 707, 788, 795, 797, 798, 799, 801, 802, 805, 806, 807, 808, 809, 811, 813, 815, 816, 817, 818, 819, 820, 821, 823, 844, 845] (s1_run V)

theorem s2_sim (V : SV) : Sim (C0 V) s2 s3 :=
  Sim.any' 1 (opsOf (cat F128.body [1, 0])) [.code (cat F128.body [1, 1])] 20 (by kernel_rfl) (by kernel_rfl) (by kernel_rfl)


end Go.Ev
