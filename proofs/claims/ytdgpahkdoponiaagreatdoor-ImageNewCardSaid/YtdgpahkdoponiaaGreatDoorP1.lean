/- ImageNew answers true for every number of words, whatever lies in memory, where the listed package variables hold what the program's text lays in them. This text is a part of that proof. -/
import Derived.Test.YtdgpahkdoponiaaGreatDoorSt1
namespace Go.Ev
open Go.Proofs L
set_option linter.unusedVariables false
set_option maxRecDepth 100000

/-! Pieces of the run. -/
theorem s3_run (V : SV) : keepS [0, 1, 2, 3, 8, 9, 11, 12, 137, 139, 142, 143, 225, 254, 283, 312, 341, 378, 380, 409, 438, 440, 441, 442, 443, 707, 788, 795, 797, 798, 799, 802, 803, 804, 811, 813, 878, 897, 916, 918, 941, 948, 959, 967, 970, 971, 972, 973, 974, 976, 978, 980, 981, 982, 983, 984, 985, 986, 988, 995, 1065, 1090, 1091] (arun (C0 V) 5400 s3) = s4 := by kernel_rfl
theorem s3_sim (V : SV) : Sim (C0 V) s3 s4 := Sim.piece 5400 [0, 1, 2, 3, 8, 9, 11, 12, 137, 139, 142, 143, 225, 254, 283, 312, 341, 378, 380, 409, 438, 440, 441, 442, 443, 707, 788, 795, 797, 798, 799, 802, 803, 804, 811, 813, 878, 897, 916, 918, 941, 948, 959, 967, 970, 971, 972, 973, 974, 976, 978, 980, 981, 982, 983, 984, 985, 986, 988, 995, 1065, 1090, 1091] (s3_run V)

theorem s4_sim (V : SV) : Sim (C0 V) s4 s5 :=
  Sim.any' 1 (opsOf (cat F128.body [1, 0])) [.code (cat F128.body [1, 1])] 20 (by kernel_rfl) (by kernel_rfl) (by kernel_rfl)

theorem s5_run (V : SV) : keepS [0, 1, 2, 3, 8, 225, 254, 283, 312, 341, 378, 380, 409, 438, 799, 802, 916, 976, 978, 1158, 1175, 1259, 1269, 1345, 1352, 1363, 1376, 1377, 1378, 1380, 1382, 1384, 1385, 1407, 1411, 1705, 1716, 1717, 1718, 1719] (arun (C0 V) 20000 s5) = s6 := by kernel_rfl
theorem s5_sim (V : SV) : Sim (C0 V) s5 s6 := Sim.piece 20000 [0, 1, 2, 3, 8, 225, 254, 283, 312, 341, 378, 380, 409, 438, 799, 802, 916, 976, 978, 1158, 1175, 1259, 1269, 1345, 1352, 1363, 1376, 1377, 1378, 1380, 1382, 1384, 1385, 1407, 1411, 1705, 1716, 1717, 1718, 1719] (s5_run V)


end Go.Ev
