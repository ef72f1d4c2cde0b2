/- ImageNew answers true for every number of words, whatever lies in memory, where the listed package variables hold what the program's text lays in them. This text is a part of that proof. -/
import Derived.Test.YtdgpahkdoponiaaGreatDoorLaw
import Derived.Test.YtdgpahkdoponiaaGreatDoorTie
import Derived.Test.YtdgpahkdoponiaaGreatDoorCards
import Derived.ProofKit
import Derived.LaidMore
import Derived.OpenShut
import Derived.Stop.Joined
import Derived.SevenTiedAt
namespace Go.Proofs.YtdgpahkdoponiaaGreatDoor
open Go.ChangeShapes Go.WideShapes Go.ChangeAt Go.RowKit
set_option linter.unusedVariables false
set_option linter.unusedSimpArgs false

theorem own : ownKnob Tryz.prog.godebug = none := by kernel_rfl

/-- The door's own heap meets the condition. -/
theorem door_met (os : Os) (args : Array Value) : laidMetH Tryz.prog Rows.imageNewRow.laid ((World.doorLaid Tryz.prog 63 os).forCall (fun _ _ => 0) ⟨#[], args, []⟩).memory :=
  laidMetH_of_parts3 (fuel := 8) (laidMet_of_run' 8 (by kernel_rfl) (by kernel_rfl)) (by kernel_rfl) (by kernel_rfl)

theorem s0_m : Go.Ev.s0.m = Go.Ev.Tr.e.sets 0 [
    .cells (Go.Ev.Tr.e.sets 0 ([[98, 111, 111, 108], [105, 110, 116], [108, 105, 115, 116], [114, 101, 102], [115, 116, 114, 105, 110, 103], [117, 110, 105, 116]].map fun (x : List UInt8) => Go.Ev.AV.str (x.map (·.toNat)))) true,
    .cells (Go.Ev.Tr.e.sets 0 ([[102, 97, 105, 108], [105, 116, 111, 97], [109, 111, 118, 101], [110, 111, 116], [112, 114, 105, 110, 116], [114, 101, 102], [115, 105, 122, 101], [116, 117, 114, 110]].map fun (x : List UInt8) => Go.Ev.AV.str (x.map (·.toNat)))) true,
    .cells (Go.Ev.Tr.e.sets 0 ([0, 0, 0, 0, 0, 0, -1, 2, 1, -1, 1, 1, 0, 1, 1, 1, 1, 1, -1, 1, 2, 1, 1, 1, 0, 0, 0].map (Go.Ev.AV.int .i64))) true,
    .cells (Go.Ev.Tr.e.sets 0 ([1, 1, 1, 1, 1, 1, 1, 1, 0, 1, 1, 1, 0, 0, 1, 1, 1, 1, 1, 0, 1, 1, 1, 1, 0, 0, 1].map (Go.Ev.AV.int .i64))) true] := by kernel_rfl

theorem gName (n : String) (k : Nat) (h : Tryz.prog.globalNamed n = some k) {g : Nat} (hg : Tryz.prog.globalNamed n = some g) : g = k := Option.some.inj (hg.symm.trans h)
theorem heap_of_var {w : World} {n : String} {g : Nat} {cs : Array Value} (hg : Tryz.prog.globalNamed n = some g) (h : w.var? Tryz.prog n = some cs) : ∃ t fz, w.heap[g]? = some (.cells cs t fz) := by
  simp only [World.var?, hg, Option.bind_some] at h
  split at h
  · rename_i c t fz hc
    injection h with h
    subst h
    exact ⟨t, fz, hc⟩
  · cases h

/-- What the condition says of the four variables that are read. -/
theorem of_laid {W : World} (V : Go.Ev.SV) (h : laidMetH Tryz.prog Rows.imageNewRow.laid W) : ∀ b o, Go.Ev.s0.m.get b = some o → b < 8 ∧ o.wr = false ∧ Go.Ev.RObj (Go.Ev.emG V 8 W) W b o := by
  rw [MakeChecks.laidMetH_plain _ _ _ (by kernel_rfl)] at h
  obtain ⟨ps, ⟨_, _, _, _, _, _, _, _, _, _, ⟨_, _, _, _, _, _, _, _, _, _, ⟨_, _, _, _, _, _, _, _, _, _, ⟨g2, t2, cs2, f2, p2, q2, hg2, ht2, hv2, hd2, ⟨g3, t3, cs3, f3, p3, q3, hg3, ht3, hv3, hd3, ⟨g0, t0, cs0, f0, p0, q0, hg0, ht0, hv0, hd0, ⟨g1, t1, cs1, f1, p1, q1, hg1, ht1, hv1, hd1, _⟩, _⟩, _⟩, _⟩, _⟩, _⟩, _⟩, _, _⟩ := h
  obtain rfl : g2 = 2 := gName _ _ (by kernel_rfl) hg2
  obtain rfl : g3 = 3 := gName _ _ (by kernel_rfl) hg3
  obtain rfl : g0 = 0 := gName _ _ (by kernel_rfl) hg0
  obtain rfl : g1 = 1 := gName _ _ (by kernel_rfl) hg1
  obtain ⟨ty0, fz0, hh0⟩ := heap_of_var hg0 hv0
  obtain ⟨ty1, fz1, hh1⟩ := heap_of_var hg1 hv1
  obtain ⟨ty2, fz2, hh2⟩ := heap_of_var hg2 hv2
  obtain ⟨ty3, fz3, hh3⟩ := heap_of_var hg3 hv3
  have et : ∀ {g t : Nat} (t' : Nat), (Tryz.prog.globals[g]?).map (·.type) = some t → (Tryz.prog.globals[g]?).map (·.type) = some t' → t = t' := fun t' h1 h2 => Option.some.inj (h1.symm.trans h2)
  have r0 := Go.Ev.robj_glob (V := V) (G := 8) (by decide) hh0 (Go.Ev.rv_strs (Go.Ev.trod_strs (l := [[98, 111, 111, 108], [105, 110, 116], [108, 105, 115, 116], [114, 101, 102], [115, 116, 114, 105, 110, 103], [117, 110, 105, 116]]) (n := 6) (e := 9) (by rw [et 130 ht0 (by kernel_rfl)]; kernel_rfl) Tryz.underlying9 (by kernel_rfl) hd0))
  have r1 := Go.Ev.robj_glob (V := V) (G := 8) (by decide) hh1 (Go.Ev.rv_strs (Go.Ev.trod_strs (l := [[102, 97, 105, 108], [105, 116, 111, 97], [109, 111, 118, 101], [110, 111, 116], [112, 114, 105, 110, 116], [114, 101, 102], [115, 105, 122, 101], [116, 117, 114, 110]]) (n := 8) (e := 9) (by rw [et 133 ht1 (by kernel_rfl)]; kernel_rfl) Tryz.underlying9 (by kernel_rfl) hd1))
  have r2 := Go.Ev.robj_glob (V := V) (G := 8) (by decide) hh2 (Go.Ev.rv_ints (Go.Ev.trod_ints (k := .i64) (l := [0, 0, 0, 0, 0, 0, -1, 2, 1, -1, 1, 1, 0, 1, 1, 1, 1, 1, -1, 1, 2, 1, 1, 1, 0, 0, 0]) (n := 27) (e := 3) (by rw [et 284 ht2 (by kernel_rfl)]; kernel_rfl) Tryz.underlying3 (by kernel_rfl) hd2))
  have r3 := Go.Ev.robj_glob (V := V) (G := 8) (by decide) hh3 (Go.Ev.rv_ints (Go.Ev.trod_ints (k := .i64) (l := [1, 1, 1, 1, 1, 1, 1, 1, 0, 1, 1, 1, 0, 0, 1, 1, 1, 1, 1, 0, 1, 1, 1, 1, 0, 0, 1]) (n := 27) (e := 3) (by rw [et 284 ht3 (by kernel_rfl)]; kernel_rfl) Tryz.underlying3 (by kernel_rfl) hd3))
  intro b o hb
  rw [s0_m, Go.Ev.get_sets] at hb
  split at hb
  · rename_i hlt
    simp only [List.length_cons, List.length_nil] at hlt
    rw [Nat.sub_zero] at hb
    have hb4 : b = 0 ∨ b = 1 ∨ b = 2 ∨ b = 3 := by omega
    rcases hb4 with rfl | rfl | rfl | rfl
    · simp only [List.getElem?_cons_zero, Option.some.injEq] at hb
      subst hb
      exact ⟨by decide, rfl, r0⟩
    · simp only [List.getElem?_cons_succ, List.getElem?_cons_zero, Option.some.injEq] at hb
      subst hb
      exact ⟨by decide, rfl, r1⟩
    · simp only [List.getElem?_cons_succ, List.getElem?_cons_zero, Option.some.injEq] at hb
      subst hb
      exact ⟨by decide, rfl, r2⟩
    · simp only [List.getElem?_cons_succ, List.getElem?_cons_zero, Option.some.injEq] at hb
      subst hb
      exact ⟨by decide, rfl, r3⟩
  · cases hb

set_option maxRecDepth 100000 in
theorem lifted (os : Os) (started : os.Started) (H : Type) (enc : TypeId × Value → H) :
    ReturnsInHanded {} Tryz.checked os 3 .any (fun w args => (Rows.imageNewSpec.pre enc Tryz.prog Tryz.f3 [] false w args ∧ laidMetH Tryz.prog Rows.imageNewRow.laid w) ∧ sizedMet enc Tryz.prog Tryz.f3 (OpenSpec.ofChange Rows.imageNewSpec) false w args)
      (Rows.imageNewSpec.post enc Tryz.prog Tryz.f3 false true false false) := by
  refine returnsInHanded_of_change_and (C := Tryz.checked) (X := fun w _ => laidMetH Tryz.prog Rows.imageNewRow.laid w) (fun _ _ _ hh h => h.of_heap hh) own started (by kernel_rfl) Tryz.func3
    (ChangeSpec.witness_shaped (enc := enc) (C := Tryz.checked) (os := os) (X := fun w _ => laidMetH Tryz.prog Rows.imageNewRow.laid w) false (World.doorLaid Tryz.prog 63 os) #[.int .i64 0] 8 rfl (World.shaped_of_RefB (by kernel_rfl) (by kernel_rfl)) (by kernel_rfl) (by kernel_rfl) (by kernel_rfl) (door_met os _)) ?_
  intro W base args ds gs before hval0 hW _ _ hL _
  have hval : ∀ (j : Nat) t v, Tryz.f3.params[j]? = some t → args[j]? = some v → Value.okWide Tryz.prog W .any base t v := hval0
  have hW' := hW
  obtain ⟨p, q, hA0, hV, rfl, hfz, hnd⟩ := hW
  have hA : DataW.TrodAll enc Tryz.prog W 0 (fun _ => true) true Tryz.f3.params.toList args.toList ds p := hA0
  rw [Tryz.params3] at hA hval
  obtain ⟨v0, vs0, d0, ds0, p0, q0, hargs, rfl, rfl, h0, r0⟩ := trodAll_cons hA
  obtain ⟨rfl, rfl, rfl⟩ := trodAll_nil r0
  obtain rfl : args = #[v0] := by cases args; simp_all
  obtain ⟨rfl, rfl⟩ := trodVars_none hV
  obtain ⟨a0, rfl, rfl, rfl, w0⟩ := open_int Tryz.underlying3 (hval 0 3 v0 rfl rfl) h0
  clear hA0 hval0
  simp only [List.append_nil] at hW'
  have hwf : -9223372036854775808 ≤ a0 ∧ a0 ≤ 9223372036854775807 := by
    simp [Lit.wf, IntKind.min, IntKind.max, IntKind.bits, IntKind.signed] at w0
    omega
  refine (Go.Ev.imageNew_calls a0 hwf.1 hwf.2 W (of_laid _ hL)).mono fun e W' ⟨he, hg⟩ => ?_
  subst he
  exact ⟨_, rfl, Go.Ev.post_old (pa := []) (pv := []) hW' (fun _ _ _ => (trodAll_cons_mk (shut_bool Tryz.underlying4 _) trodAll_mk0)) (fun sp _ => (trodAll_cons_mk (shut_int Tryz.underlying3 w0) trodAll_mk0)) (fun _ _ => rfl) rfl
    hg (ok_one (by kernel_rfl) rfl (okWide_bool_mk Tryz.underlying4 _))⟩

theorem imageNew_row : Rows.ImageNewSaid :=
  OpenClaim.holds_of_wide 3 Tryz.f3 rfl rfl rfl rfl rfl rfl rfl ⟨rfl, rfl, rfl, rfl, rfl⟩ rfl rfl rfl rfl rfl (by kernel_rfl) Tryz.func3 (by kernel_rfl)
    (of_decide_eq_true (by kernel_rfl)) (by unfold Func.isWrapper; first | (rw [if_pos (by decide +kernel)]; kernel_rfl) | (rw [if_neg (by decide +kernel)]; exact ⟨rfl, rfl⟩))
    (fun os started H enc _ => lifted os started H enc)

/-- ImageNew: whatever the number of words, the law answers true. -/
theorem imageNew_holds : Rows.ImageNewCardSaid :=
  Claim7.holds_tied_plain_at .later [] [.data, .data, .data, .data, .data, .widerDeep, .data, .sentinel] true (true, "51c80a02a3d154961f90fb9ebb2f0457059f3bb0f8f84be54ded91da69de518e") true
    imageNew_row (fun _ h => by cases h) (by kernel_rfl) (fun _ h => by cases h) imageNew_row_tie rfl ⟨rfl, rfl⟩ (by kernel_rfl) rfl
    (fun f fn hf hfn => by
      obtain rfl : f = 3 := Option.some.inj ((show Tryz.prog.funcNamed "battledore/battledorelaw11.ImageNew" = some 3 by kernel_rfl).symm.trans hf) |>.symm
      obtain rfl : fn = Tryz.f3 := (Option.some.inj (Tryz.func3.symm.trans hfn)).symm
      exact ⟨by kernel_rfl, fun j t ht => by
        rw [Tryz.params3] at ht
        have hm : t ∈ [3] := by simpa using Array.mem_of_getElem? ht
        have hall : ([3].all fun u => !Tryz.prog.wantsStandIn u) = true := by kernel_rfl
        exact (show Tryz.prog.wantsStandIn t = false by simpa using List.all_eq_true.1 hall t hm)⟩)
    (by kernel_rfl)
end Go.Proofs.YtdgpahkdoponiaaGreatDoor
