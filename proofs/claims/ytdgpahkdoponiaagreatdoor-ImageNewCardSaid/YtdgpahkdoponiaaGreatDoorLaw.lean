/- ImageNew answers true for every number of words, whatever lies in memory, where the listed package variables hold what the program's text lays in them. This text is a part of that proof. -/
import Derived.Test.YtdgpahkdoponiaaGreatDoorEg
import Derived.Test.YtdgpahkdoponiaaGreatDoorP0
import Derived.Test.YtdgpahkdoponiaaGreatDoorP1
import Derived.Test.YtdgpahkdoponiaaGreatDoorP2
import Derived.Test.YtdgpahkdoponiaaGreatDoorP3
import Derived.Test.YtdgpahkdoponiaaGreatDoorP4
import Derived.Test.YtdgpahkdoponiaaGreatDoorPa
import Derived.Test.YtdgpahkdoponiaaGreatDoorPm
import Derived.Test.YtdgpahkdoponiaaGreatDoorPo
import Derived.Test.YtdgpahkdoponiaaGreatDoorPp
import Derived.Test.YtdgpahkdoponiaaGreatDoorPq
namespace Go.Ev
open Go.Proofs L
set_option linter.unusedVariables false
set_option linter.unusedSimpArgs false
set_option maxRecDepth 100000

/-! The run as a whole, for every quota. -/
theorem main_sim (V : SV) : Sim (C0 V) s0 s15 :=
  (s0_sim V).trans ( (s1_sim V).trans ( (s2_sim V).trans ( (s3_sim V).trans ( (s4_sim V).trans ( (s5_sim V).trans ( (s6_sim V).trans ( (s7_sim V).trans ( (s8_sim V).trans ( (s9_sim V).trans ( (s10_sim V).trans ( (s11_sim V).trans ( (s12_sim V).trans ( (s13_sim V).trans ( (s14_sim V)))))))))))))))
theorem start_t : s15.fr.t.get 0 = some (.unk .i64 (.negSucc 9223372036854775807) (.ofNat 9223372036854775807) (.app 1 .nil)) := by kernel_rfl
theorem a_nar (V : SV) (hlo : (-9223372036854775808 : Int) ≤ ((SE.app 1 SE.nil).ev V).1) (hhi : ((SE.app 1 SE.nil).ev V).1 ≤ 0) : Sim (C0 V) s15 a0 := (Sim.narrow start_t (fun E u hE h => rv_narrow (lo' := (.negSucc 9223372036854775807)) (hi' := (.ofNat 0)) hE hlo hhi h))
theorem a_all (V : SV) (hlo : (-9223372036854775808 : Int) ≤ ((SE.app 1 SE.nil).ev V).1) (hhi : ((SE.app 1 SE.nil).ev V).1 ≤ 0) : Sim (C0 V) s0 a1 := (main_sim V).trans ((a_nar V hlo hhi).trans ((a0_sim V)))
theorem a_end (V : SV) : ended (C0 V) a1 = some [.bool true] := by kernel_rfl
theorem b_nar (V : SV) (hlo : (1048577 : Int) ≤ ((SE.app 1 SE.nil).ev V).1) (hhi : ((SE.app 1 SE.nil).ev V).1 ≤ 9223372036854775807) : Sim (C0 V) s15 b0 := (Sim.narrow start_t (fun E u hE h => rv_narrow (lo' := (.ofNat 1048577)) (hi' := (.ofNat 9223372036854775807)) hE hlo hhi h))
theorem b_all (V : SV) (hlo : (1048577 : Int) ≤ ((SE.app 1 SE.nil).ev V).1) (hhi : ((SE.app 1 SE.nil).ev V).1 ≤ 9223372036854775807) : Sim (C0 V) s0 b1 := (main_sim V).trans ((b_nar V hlo hhi).trans ((b0_sim V)))
theorem b_end (V : SV) : ended (C0 V) b1 = some [.bool true] := by kernel_rfl
theorem c_nar (V : SV) (hlo : (1 : Int) ≤ ((SE.app 1 SE.nil).ev V).1) (hhi : ((SE.app 1 SE.nil).ev V).1 ≤ 1) : Sim (C0 V) s15 c0 := (Sim.narrow start_t (fun E u hE h => rv_narrow (lo' := (.ofNat 1)) (hi' := (.ofNat 1)) hE hlo hhi h))
theorem c_all (V : SV) (hlo : (1 : Int) ≤ ((SE.app 1 SE.nil).ev V).1) (hhi : ((SE.app 1 SE.nil).ev V).1 ≤ 1) : Sim (C0 V) s0 c1 := (main_sim V).trans ((c_nar V hlo hhi).trans ((c0_sim V)))
theorem c_end (V : SV) : ended (C0 V) c1 = some [.bool true] := by kernel_rfl
theorem d_nar (V : SV) (hlo : (2 : Int) ≤ ((SE.app 1 SE.nil).ev V).1) (hhi : ((SE.app 1 SE.nil).ev V).1 ≤ 3) : Sim (C0 V) s15 d0 := (Sim.narrow start_t (fun E u hE h => rv_narrow (lo' := (.ofNat 2)) (hi' := (.ofNat 3)) hE hlo hhi h))
theorem d_all (V : SV) (hlo : (2 : Int) ≤ ((SE.app 1 SE.nil).ev V).1) (hhi : ((SE.app 1 SE.nil).ev V).1 ≤ 3) : Sim (C0 V) s0 d1 := (main_sim V).trans ((d_nar V hlo hhi).trans ((d0_sim V)))
theorem d_end (V : SV) : ended (C0 V) d1 = some [.bool true] := by kernel_rfl
theorem e_nar (V : SV) (hlo : (4 : Int) ≤ ((SE.app 1 SE.nil).ev V).1) (hhi : ((SE.app 1 SE.nil).ev V).1 ≤ 5) : Sim (C0 V) s15 e0 := (Sim.narrow start_t (fun E u hE h => rv_narrow (lo' := (.ofNat 4)) (hi' := (.ofNat 5)) hE hlo hhi h))
theorem e_all (V : SV) (hlo : (4 : Int) ≤ ((SE.app 1 SE.nil).ev V).1) (hhi : ((SE.app 1 SE.nil).ev V).1 ≤ 5) : Sim (C0 V) s0 e1 := (main_sim V).trans ((e_nar V hlo hhi).trans ((e0_sim V)))
theorem e_end (V : SV) : ended (C0 V) e1 = some [.bool true] := by kernel_rfl
theorem f_nar (V : SV) (hlo : (6 : Int) ≤ ((SE.app 1 SE.nil).ev V).1) (hhi : ((SE.app 1 SE.nil).ev V).1 ≤ 7) : Sim (C0 V) s15 f0 := (Sim.narrow start_t (fun E u hE h => rv_narrow (lo' := (.ofNat 6)) (hi' := (.ofNat 7)) hE hlo hhi h))
theorem f_all (V : SV) (hlo : (6 : Int) ≤ ((SE.app 1 SE.nil).ev V).1) (hhi : ((SE.app 1 SE.nil).ev V).1 ≤ 7) : Sim (C0 V) s0 f1 := (main_sim V).trans ((f_nar V hlo hhi).trans ((f0_sim V)))
theorem f_end (V : SV) : ended (C0 V) f1 = some [.bool true] := by kernel_rfl
theorem g_nar (V : SV) (hlo : (8 : Int) ≤ ((SE.app 1 SE.nil).ev V).1) (hhi : ((SE.app 1 SE.nil).ev V).1 ≤ 9) : Sim (C0 V) s15 g0 := (Sim.narrow start_t (fun E u hE h => rv_narrow (lo' := (.ofNat 8)) (hi' := (.ofNat 9)) hE hlo hhi h))
theorem g_all (V : SV) (hlo : (8 : Int) ≤ ((SE.app 1 SE.nil).ev V).1) (hhi : ((SE.app 1 SE.nil).ev V).1 ≤ 9) : Sim (C0 V) s0 g1 := (main_sim V).trans ((g_nar V hlo hhi).trans ((g0_sim V)))
theorem g_end (V : SV) : ended (C0 V) g1 = some [.bool true] := by kernel_rfl
theorem h_nar (V : SV) (hlo : (10 : Int) ≤ ((SE.app 1 SE.nil).ev V).1) (hhi : ((SE.app 1 SE.nil).ev V).1 ≤ 11) : Sim (C0 V) s15 h0 := (Sim.narrow start_t (fun E u hE h => rv_narrow (lo' := (.ofNat 10)) (hi' := (.ofNat 11)) hE hlo hhi h))
theorem h_all (V : SV) (hlo : (10 : Int) ≤ ((SE.app 1 SE.nil).ev V).1) (hhi : ((SE.app 1 SE.nil).ev V).1 ≤ 11) : Sim (C0 V) s0 h1 := (main_sim V).trans ((h_nar V hlo hhi).trans ((h0_sim V)))
theorem h_end (V : SV) : ended (C0 V) h1 = some [.bool true] := by kernel_rfl
theorem j_nar (V : SV) (hlo : (12 : Int) ≤ ((SE.app 1 SE.nil).ev V).1) (hhi : ((SE.app 1 SE.nil).ev V).1 ≤ 13) : Sim (C0 V) s15 j0 := (Sim.narrow start_t (fun E u hE h => rv_narrow (lo' := (.ofNat 12)) (hi' := (.ofNat 13)) hE hlo hhi h))
theorem j_all (V : SV) (hlo : (12 : Int) ≤ ((SE.app 1 SE.nil).ev V).1) (hhi : ((SE.app 1 SE.nil).ev V).1 ≤ 13) : Sim (C0 V) s0 j1 := (main_sim V).trans ((j_nar V hlo hhi).trans ((j0_sim V)))
theorem j_end (V : SV) : ended (C0 V) j1 = some [.bool true] := by kernel_rfl
theorem k_nar (V : SV) (hlo : (14 : Int) ≤ ((SE.app 1 SE.nil).ev V).1) (hhi : ((SE.app 1 SE.nil).ev V).1 ≤ 15) : Sim (C0 V) s15 k0 := (Sim.narrow start_t (fun E u hE h => rv_narrow (lo' := (.ofNat 14)) (hi' := (.ofNat 15)) hE hlo hhi h))
theorem k_all (V : SV) (hlo : (14 : Int) ≤ ((SE.app 1 SE.nil).ev V).1) (hhi : ((SE.app 1 SE.nil).ev V).1 ≤ 15) : Sim (C0 V) s0 k1 := (main_sim V).trans ((k_nar V hlo hhi).trans ((k0_sim V)))
theorem k_end (V : SV) : ended (C0 V) k1 = some [.bool true] := by kernel_rfl
theorem m_nar (V : SV) (hlo : (16 : Int) ≤ ((SE.app 1 SE.nil).ev V).1) (hhi : ((SE.app 1 SE.nil).ev V).1 ≤ 255) : Sim (C0 V) s15 m0 := (Sim.narrow start_t (fun E u hE h => rv_narrow (lo' := (.ofNat 16)) (hi' := (.ofNat 255)) hE hlo hhi h))
theorem m_all (V : SV) (hlo : (16 : Int) ≤ ((SE.app 1 SE.nil).ev V).1) (hhi : ((SE.app 1 SE.nil).ev V).1 ≤ 255) : Sim (C0 V) s0 m4 := (main_sim V).trans ((m_nar V hlo hhi).trans ((m0_sim V).trans ( (m1_sim V).trans ( (m2_sim V).trans ( (m3_sim V))))))
theorem m_end (V : SV) : ended (C0 V) m4 = some [.bool true] := by kernel_rfl
theorem o_nar (V : SV) (hlo : (256 : Int) ≤ ((SE.app 1 SE.nil).ev V).1) (hhi : ((SE.app 1 SE.nil).ev V).1 ≤ 65535) : Sim (C0 V) s15 o0 := (Sim.narrow start_t (fun E u hE h => rv_narrow (lo' := (.ofNat 256)) (hi' := (.ofNat 65535)) hE hlo hhi h))
theorem o_all (V : SV) (hlo : (256 : Int) ≤ ((SE.app 1 SE.nil).ev V).1) (hhi : ((SE.app 1 SE.nil).ev V).1 ≤ 65535) : Sim (C0 V) s0 o4 := (main_sim V).trans ((o_nar V hlo hhi).trans ((o0_sim V).trans ( (o1_sim V).trans ( (o2_sim V).trans ( (o3_sim V))))))
theorem o_end (V : SV) : ended (C0 V) o4 = some [.bool true] := by kernel_rfl
theorem p_nar (V : SV) (hlo : (65536 : Int) ≤ ((SE.app 1 SE.nil).ev V).1) (hhi : ((SE.app 1 SE.nil).ev V).1 ≤ 1048575) : Sim (C0 V) s15 p0 := (Sim.narrow start_t (fun E u hE h => rv_narrow (lo' := (.ofNat 65536)) (hi' := (.ofNat 1048575)) hE hlo hhi h))
theorem p_all (V : SV) (hlo : (65536 : Int) ≤ ((SE.app 1 SE.nil).ev V).1) (hhi : ((SE.app 1 SE.nil).ev V).1 ≤ 1048575) : Sim (C0 V) s0 p4 := (main_sim V).trans ((p_nar V hlo hhi).trans ((p0_sim V).trans ( (p1_sim V).trans ( (p2_sim V).trans ( (p3_sim V))))))
theorem p_end (V : SV) : ended (C0 V) p4 = some [.bool true] := by kernel_rfl
theorem q_nar (V : SV) (hlo : ((SE.app 1 SE.nil).ev V).1 = 1048576) : Sim (C0 V) s15 q0 := (Sim.narrow start_t (fun E u hE h => rv_const (n := 1048576) hE hlo h))
theorem q_all (V : SV) (hlo : ((SE.app 1 SE.nil).ev V).1 = 1048576) : Sim (C0 V) s0 q4 := (main_sim V).trans ((q_nar V hlo).trans ((q0_sim V).trans ( (q1_sim V).trans ( (q2_sim V).trans ( (q3_sim V))))))
theorem q_end (V : SV) : ended (C0 V) q4 = some [.bool true] := by kernel_rfl

theorem enter0 (V : SV) : enterA (C0 V) 3 [.unk .i64 (.negSucc 9223372036854775807) (.ofNat 9223372036854775807) (.app 1 .nil)] false = some s0.fr := by kernel_rfl
theorem s0_eq : s0 = ⟨s0.fr, [], s0.m, 8⟩ := by kernel_rfl

/-- The numbers that are not known: the quota; the sum of bytes. -/
noncomputable def vOf (q : Int) : SV := ⟨fun f l => match f with | 0 => crcF l | _ => q, fun _ => .empty⟩

/-- Whatever the quota: true; and what was there is as it was. -/
theorem imageNew_calls (q : Int) (hq1 : -9223372036854775808 ≤ q) (hq2 : q ≤ 9223372036854775807) (w : World) (hm : ∀ b o, s0.m.get b = some o → b < 8 ∧ o.wr = false ∧ RObj (emG (vOf q) 8 w) w b o) :
    Calls Tryz.prog 3 #[.int .i64 q] w fun e w' => e = .returned (.bool true) ∧ Go.RowKit.Below w.heap.size w w' := by
  have hV : (vOf q).val 0 = crcF := rfl
  have hev : ((SE.app 1 SE.nil).ev (vOf q)).1 = q := rfl
  have hs : HS (C0 (vOf q)).G (C0 (vOf q)).V w (· < w.heap.size) (emG (vOf q) 8 w) s0.m.get s0.m 8 w := hs_start hm
  have hr : RVs (emG (vOf q) 8 w) [.unk .i64 (.negSucc 9223372036854775807) (.ofNat 9223372036854775807) (.app 1 .nil)] (#[.int .i64 q] : Array Value).toList :=
    .cons _ _ _ _ (.unk _ _ _ _ q hev hq1 hq2) .nil
  have fin : ∀ (s : AState), Sim (C0 (vOf q)) s0 s → ended (C0 (vOf q)) s = some [.bool true] → s.fr.fn = 3 →
      Calls Tryz.prog 3 #[.int .i64 q] w fun e w' => e = .returned (.bool true) ∧ Go.RowKit.Below w.heap.size w w' := by
    intro s h1 h2 h3
    rw [s0_eq] at h1
    refine (calls_of_sim (ok0 _ hV) hs (enter0 _) hr h1 h2 h3).mono fun e w' ⟨v, E', M', he, hv, hh⟩ => ?_
    have hv : RV E' (.bool true) v := hv
    rw [hv.bool_inv] at he
    exact ⟨he, below_of_hs hh⟩
  by_cases ha : -9223372036854775808 ≤ q ∧ q ≤ 0
  · exact fin _ (a_all _ (by rw [hev]; exact ha.1) (by rw [hev]; exact ha.2)) (a_end _) (by kernel_rfl)
  by_cases hb : 1048577 ≤ q ∧ q ≤ 9223372036854775807
  · exact fin _ (b_all _ (by rw [hev]; exact hb.1) (by rw [hev]; exact hb.2)) (b_end _) (by kernel_rfl)
  by_cases hc : 1 ≤ q ∧ q ≤ 1
  · exact fin _ (c_all _ (by rw [hev]; exact hc.1) (by rw [hev]; exact hc.2)) (c_end _) (by kernel_rfl)
  by_cases hd : 2 ≤ q ∧ q ≤ 3
  · exact fin _ (d_all _ (by rw [hev]; exact hd.1) (by rw [hev]; exact hd.2)) (d_end _) (by kernel_rfl)
  by_cases he : 4 ≤ q ∧ q ≤ 5
  · exact fin _ (e_all _ (by rw [hev]; exact he.1) (by rw [hev]; exact he.2)) (e_end _) (by kernel_rfl)
  by_cases hf : 6 ≤ q ∧ q ≤ 7
  · exact fin _ (f_all _ (by rw [hev]; exact hf.1) (by rw [hev]; exact hf.2)) (f_end _) (by kernel_rfl)
  by_cases hg : 8 ≤ q ∧ q ≤ 9
  · exact fin _ (g_all _ (by rw [hev]; exact hg.1) (by rw [hev]; exact hg.2)) (g_end _) (by kernel_rfl)
  by_cases hh : 10 ≤ q ∧ q ≤ 11
  · exact fin _ (h_all _ (by rw [hev]; exact hh.1) (by rw [hev]; exact hh.2)) (h_end _) (by kernel_rfl)
  by_cases hj : 12 ≤ q ∧ q ≤ 13
  · exact fin _ (j_all _ (by rw [hev]; exact hj.1) (by rw [hev]; exact hj.2)) (j_end _) (by kernel_rfl)
  by_cases hk : 14 ≤ q ∧ q ≤ 15
  · exact fin _ (k_all _ (by rw [hev]; exact hk.1) (by rw [hev]; exact hk.2)) (k_end _) (by kernel_rfl)
  by_cases hm : 16 ≤ q ∧ q ≤ 255
  · exact fin _ (m_all _ (by rw [hev]; exact hm.1) (by rw [hev]; exact hm.2)) (m_end _) (by kernel_rfl)
  by_cases ho : 256 ≤ q ∧ q ≤ 65535
  · exact fin _ (o_all _ (by rw [hev]; exact ho.1) (by rw [hev]; exact ho.2)) (o_end _) (by kernel_rfl)
  by_cases hp : 65536 ≤ q ∧ q ≤ 1048575
  · exact fin _ (p_all _ (by rw [hev]; exact hp.1) (by rw [hev]; exact hp.2)) (p_end _) (by kernel_rfl)
  · exact fin _ (q_all _ (by rw [hev]; omega)) (q_end _) (by kernel_rfl)
end Go.Ev
