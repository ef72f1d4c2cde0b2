/- ImageNew answers true for every number of words, whatever lies in memory, where the listed package variables hold what the program's text lays in them. This text is a part of that proof. -/
import Derived.Test.YtdgpahkdoponiaaGreatDoorSt1
namespace Go.Ev
open Go.Proofs L
set_option linter.unusedVariables false
set_option maxRecDepth 100000

/-! Pieces of the run. -/
theorem s12_run (V : SV) : keepS [0, 1, 2, 3, 8, 225, 254, 283, 312, 341, 378, 380, 409, 438, 799, 802, 916, 976, 978, 1158, 1175, 1259, 1269, 1345, 1352, 1363, 1376, 1377, 2204, 2248, 2250, 2267, 2287, 2307, 2327, 2347, 2369, 2371, 2391, 2411, 2439, 2441, 2448, 2463, 2472, 2531, 2533, 2536, 2538, 2539, 2609, 2610, 2611, 2658, 2744, 2746, 2747, 2748, 2750, 2752, 2753, 2756, 2757, 2758, 2759, 2760, 2762, 2764, 2766, 2767, 2768, 2769, 2770, 2771, 2772, 2774, 2815, 2885, 2886] (arun (C0 V) 1306 s12) = s13 := by kernel_rfl
theorem s12_sim (V : SV) : Sim (C0 V) s12 s13 := Sim.piece 1306 [0, 1, 2, 3, 8, 225, 254, 283, 312, 341, 378, 380, 409, 438, 799, 802, 916, 976, 978, 1158, 1175, 1259, 1269, 1345, 1352, 1363, 1376, 1377, 2204, 2248, 2250, 2267, 2287, 2307, 2327, 2347, 2369, 2371, 2391, 2411, 2439, 2441, 2448, 2463, 2472, 2531, 2533, 2536, 2538, 2539, 2609, 2610, 2611, 2658, 2744, 2746, 2747, 2748, 2750, 2752, 2753, 2756, 2757, 2758, 2759, 2760, 2762, 2764, 2766, 2767, 2768, 2769, 2770, 2771, 2772, 2774, 2815, 2885, 2886] (s12_run V)

theorem s13_sim (V : SV) : Sim (C0 V) s13 s14 :=
  Sim.any' 1 (opsOf (cat F128.body [1, 0])) [.code (cat F128.body [1, 1])] 20 (by kernel_rfl) (by kernel_rfl) (by kernel_rfl)

theorem s14_run (V : SV) : keepS [0, 1, 2, 3] (arun (C0 V) 8441 s14) = s15 := by kernel_rfl
theorem s14_sim (V : SV) : Sim (C0 V) s14 s15 := Sim.piece 8441 [0, 1, 2, 3] (s14_run V)

end Go.Ev
