/- ImageNew answers true for every number of words, whatever lies in memory, where the listed package variables hold what the program's text lays in them. This text is a part of that proof. -/
import Derived.Test.YtdgpahkdoponiaaGreatDoorEe
import Derived.RangeFuncIn
import Derived.Defers
namespace Go.Ev
set_option linter.unusedVariables false
set_option linter.unusedSimpArgs false

theorem RT.put {E : Em} {t t' : Tr AV} {tm : Array Value} {nt : Nat} {d : Option Tmp} {v : AV} {v' : Value} (h : RT E t tm) (hp : putT t nt d v = some t') (hn : tm.size = nt) (hr : RV E v v') (ds : List Deferred) :
    RT E t' ((⟨tm, ds⟩ : Act).put d v').tmps := by
  cases d with
  | none => injection hp with hp; subst hp; exact h
  | some d =>
    simp only [putT] at hp
    split at hp
    · rename_i hlt
      have hlt := Nat.le_of_ble_eq_true hlt
      injection hp with hp
      subst hp
      intro i u hu
      rw [get_set] at hu
      simp only [Act.put, Array.getElem?_setIfInBounds]
      split at hu
      · rename_i e
        subst e
        injection hu with hu
        subst hu
        have : i < tm.size := by omega
        exact ⟨v', by simp [this], hr⟩
      · rename_i e
        rw [if_neg (fun h => e h.symm)]
        exact h i u hu
    · cases hp

section
variable {P : Program} {C : Ctx} {W0 : World} {Q : Nat → Prop} {E : Em} {M : Nat → Option AObj} {m : Tr AObj} {B nx : Nat} {w : World}

/-- A value comes back to a frame. -/
theorem finish_sound {af af' : AFrame} {cf : Frame} {nx' : Nat} {v : AV} {v' : Value} (hs : HS C.G C.V W0 Q E M m nx w) (h : RF C E M m B nx true af cf) (hB : B ≤ nx) (hf : finishA C af v m nx = some (af', nx')) (hr : RV E v v') :
    HS C.G C.V W0 Q E M m nx' w ∧ RF C E M m B nx' false af' (cf.finish v') ∧ nx ≤ nx' ∧ af'.ret = af.ret := by
  obtain ⟨fn, reg, todo, t, nt, ds, ret, dfr, round⟩ := af
  simp only [finishA] at hf
  have hreg := h.reg
  simp only [RReg] at hreg
  split at hf
  · rename_i ops o rest i
    simp only at hreg
    obtain ⟨ht, n, h1, h2, h3⟩ := hreg
    have hlen : (ops.toList.drop i).length = ops.size - i := by simp
    rw [← h2] at hlen
    simp only [List.length_cons] at hlen
    obtain ⟨n', rfl⟩ : ∃ n', n = n' + 1 := ⟨n - 1, by omega⟩
    rw [List.range'_succ] at h1
    have ho : ops[i]? = some o := by
      rw [← Array.getElem?_toList]
      have : (ops.toList.drop i)[0]? = some o := by rw [← h2]; rfl
      simpa using this
    have hrest : rest = ops.toList.drop (i + 1) := by
      have : (ops.toList.drop i).tail = rest := by rw [← h2]; rfl
      rw [← this, List.tail_drop]
    unfold finSeq at hf
    split at hf
    · rename_i t' hp
      injection hf with hf
      injection hf with e1 e2
      subst e1 e2
      have htm := ht.put hp h.nt hr cf.defers
      refine ⟨hs, ?_, Nat.le_refl _, rfl⟩
      have hfin : cf.finish v' = { cf with tmps := ((⟨cf.tmps, cf.defers⟩ : Act).put o.dst v').tmps, todo := .inRegion ops (List.range' (i + 1) n') :: todo } := by
        simp only [Frame.finish, h1, ho, Option.bind_some]
        cases o.dst <;> rfl
      rw [hfin]
      refine ⟨h.fn, h.mode, h.kind, h.round, ?_, h.ds, ?_⟩
      · simp only
        rw [put_size]; exact h.nt
      · exact ⟨htm, n', rfl, hrest, by omega⟩
    · cases hf
  · rename_i b
    simp only at hreg
    obtain ⟨ht, l, h1, h2⟩ := hreg
    injection hf with hf
    injection hf with e1 e2
    subst e1 e2
    refine ⟨hs, ?_, Nat.le_refl _, rfl⟩
    have hfin : cf.finish v' = { cf with todo := .endRangeFunc l.blk :: todo } := by
      simp only [Frame.finish, h2]
    rw [hfin]
    exact ⟨h.fn, h.mode, h.kind, h.round, h.nt, h.ds, ht, l, h1, rfl⟩
  · rename_i pl p vals als
    simp only at hreg
    obtain ⟨ops, listed, fuel, tt, hd, e, he, hb, hu, htodo⟩ := hreg
    unfold finDr at hf
    rw [he] at hf
    simp only at hf
    unfold drAfter at hf
    split at hf
    · rename_i vals' als' nx1 hv0 hp
      injection hf with hf
      injection hf with e1 e2
      subst e1 e2
      have ho := (hd.ok.mem (hd.ok.eff.1 (List.mem_of_getElem? he)).1).2.2.1
      have hd' : DrC C E M m B nx ops pl p (p + 1) vals als t listed (⟨cf.tmps, cf.defers⟩ : Act).tmps := hd
      have h1 := hd'.effect he hb hv0 hr rfl
      obtain ⟨h2, h3, h4⟩ := h1.pass hs hB hp
      have hfin : cf.finish v' = { cf with tmps := ((⟨cf.tmps, cf.defers⟩ : Act).put e.o.dst v').tmps, todo := .inRegion ops (Region.linearise.go .any ops fuel tt (listed.setIfInBounds e.i true) []) :: todo } := by
        simp only [Frame.finish, htodo, ho, Option.bind_some]
        cases e.o.dst <;> rfl
      have hfr : E.fresh nx1 := Em.fresh_mono hs.fr h4
      refine ⟨{ hs with fr := hfr }, ?_, h4, rfl⟩
      rw [hfin]
      refine ⟨h.fn, h.mode, h.kind, h.round, ?_, h.ds, ?_⟩
      · simp only
        rw [put_size]; exact h.nt
      · exact ⟨ops, _, fuel, tt, h2, h3, hu, rfl⟩
    · cases hf
  · cases hf

/-- A function is entered. -/
theorem enter_sound (hP : PrOk P C) {f : FuncId} {args : List AV} {dfr : Bool} {g : AFrame} {args' : Array Value} (h : enterA C f args dfr = some g) (hr : RVs E args args'.toList) :
    (∃ x, C.F.get f = some x) ∧ RF C E M m nx nx false g (Frame.enter P f args' (if dfr then .deferred else .normal)) ∧ g.ret = false := by
  unfold enterA at h
  split at h
  · rename_i body ntmps rs hx
    split at h
    · rename_i hlen
      have hlen := Nat.le_of_ble_eq_true hlen
      injection h with h
      subst h
      obtain ⟨fn, h1, h2, h3, h4⟩ := hP.fns f _ hx
      have hsz : args.length = args'.size := by
        have := hr.length
        simpa using this
      simp only at h2 h3
      refine ⟨⟨_, hx⟩, ?_, rfl⟩
      have hfr : Frame.enter P f args' (if dfr then .deferred else .normal) =
          { fn := f, tmps := args' ++ Array.replicate (ntmps - args'.size) undef, todo := [.code body], defers := [], mode := .run, kind := if dfr then .deferred else .normal } := by
        simp [Frame.enter, h1, h2, h3]
      rw [hfr]
      refine ⟨rfl, rfl, ?_, rfl, ?_, trivial, ?_, fun _ => rfl⟩
      · cases dfr <;> rfl
      · simp only [Array.size_append, Array.size_replicate]
        omega
      · intro i v hv
        simp only [get_sets, get_e, Nat.sub_zero] at hv
        split at hv
        · rename_i hi
          obtain ⟨u, hu, hru⟩ := hr.at i v hv
          refine ⟨u, ?_, hru⟩
          have hlt : i < args'.size := by omega
          rw [Array.getElem?_append_left hlt]
          simpa using hu
        · cases hv
    · cases h
  · cases h

/-- A frame that runs, as the laws have it. -/
theorem atR_self {cf : Frame} (h : cf.mode = .run) : cf.atR ⟨cf.tmps, cf.defers⟩ cf.todo = cf := by
  obtain ⟨fn, tmps, todo, defers, mode, kind, roundOf⟩ := cf
  simp only at h
  subst h
  rfl

theorem setsT_spec {E : Em} (n : Nat) : ∀ (ps : List Tmp) (l : List AV) (us : List Value) (t t' : Tr AV) (tm : Array Value), setsT n ps l t = some t' → RVs E l us → RT E t tm → tm.size = n →
    ps.length = l.length ∧ RT E t' ((ps.zip us).foldl (fun tmps (t, a) => tmps.setIfInBounds t a) tm) ∧ ((ps.zip us).foldl (fun tmps (t, a) => tmps.setIfInBounds t a) tm).size = n
  | [], [], us, t, t', tm, h, hr, ht, hn => by
    have h : some t = some t' := h
    injection h with h
    subst h
    exact ⟨rfl, ht, hn⟩
  | [], _ :: _, us, t, t', tm, h, hr, ht, hn => by cases h
  | p :: ps, [], us, t, t', tm, h, hr, ht, hn => by cases h
  | p :: ps, v :: l, us, t, t', tm, h, hr, ht, hn => by
    have h : (match Nat.blt p n with | true => setsT n ps l (t.set p (some v)) | false => none) = some t' := h
    split at h
    · rename_i hlt
      cases hr with
      | cons _ u _ us hv hvs =>
        have hp : putT t n (some p) v = some (t.set p (some v)) := by simp only [putT, hlt]
        have h1 := ht.put hp hn hv []
        obtain ⟨a, b, c⟩ := setsT_spec n ps l us _ t' _ h hvs h1 (by rw [put_size]; exact hn)
        exact ⟨by simp [a], b, c⟩
    · cases h

theorem resA_cons (C : Ctx) (t : Tr AV) (m : Tr AObj) (x : ResultVar) (l : List ResultVar) : resA C t m (x :: l) = (match x with
    | .tmp i => (match t.get i, resA C t m l with | some v, some l => some (v :: l) | _, _ => none)
    | .cell a ty => (match t.get a, C.T.get ty, resA C t m l with
      | some p, some ti, some l => (match loadA ti m p with | some v => some (v :: l) | none => none)
      | _, _, _ => none)) := rfl

end
end Go.Ev
namespace Go.Ev
set_option linter.unusedVariables false
set_option linter.unusedSimpArgs false

section
variable {P : Program} {C : Ctx} {W0 : World} {Q : Nat → Prop} {E : Em} {M : Nat → Option AObj} {m : Tr AObj} {B nx : Nat} {w : World} {cs : List Frame}

theorem recOk_sound {as : List AFrame} {dfr : Bool} {round : Option Nat} {af : AFrame} {cf : Frame} {ccs : List Frame} {b : Bool} (h : RF C E M m B nx b af cf) (hs : RFs C E M m cs B as ccs) (hd : af.dfr = dfr) (hr : af.round = round) (hk : recOk as dfr round = true) :
    cf.roundOf = none ∧ tryRecover cf ccs = none := by
  unfold recOk at hk
  split at hk
  · have h1 := h.round
    rw [hr] at h1
    have h2 := h.kind
    rw [hd] at h2
    refine ⟨h1, ?_⟩
    simp [tryRecover, h2]
  · have h1 := h.round
    rw [hr] at h1
    have h2 := h.kind
    rw [hd] at h2
    refine ⟨h1, ?_⟩
    split at hk
    · rename_i hret
      cases ccs with
      | nil => exact hs.elim
      | cons c ccs =>
        obtain ⟨B', hB', hc, _⟩ := hs
        have h3 := hc.mode
        simp only [hk, if_true] at h3
        have h4 : cf.kind = .deferred := h2
        unfold tryRecover
        rw [h4]
        simp only [h3]
    · cases hk
  · cases hk

/-- An operation that is wanted. -/
theorem next_sound (hP : PrOk P C) {af : AFrame} {as : List AFrame} {cf : Frame} {ccs : List Frame} {ops : Array Oper} {i : Nat} {rest : List Nat} {k : List Item} {o : Oper} {t : Tr AV} {rd : Bool} {s' : AState}
    (hs : HS C.G C.V W0 Q E M m nx w) (hB : B ≤ nx) (hf : RF C E M m B nx true af cf) (hfs : RFs C E M m cs B as ccs) (hret : af.ret = false) (htodo : cf.todo = .inRegion ops (i :: rest) :: k) (ho : ops[i]? = some o)
    (hw : Region.wanted o (yielded ops cf.tmps) = true) (hρ : ∀ x ∈ o.op.operands, RV E (evo C.G t x) ((⟨cf.tmps, cf.defers⟩ : Act).eval x)) (hrd : rd = true → cf.roundOf = none ∧ tryRecover cf ccs = none)
    (h : nextA C af as m nx (actA C t m nx rd o.op) = some s') :
    ∃ fr' ccs' w', Steps P (lone cf ccs w) (lone fr' ccs' w') ∧ RS C W0 Q cs s' fr' ccs' w' := by
  have hmode : cf.mode = .run := by have := hf.mode; rw [hret] at this; exact this
  have hself : cf.atR ⟨cf.tmps, cf.defers⟩ (.inRegion ops (i :: rest) :: k) = cf := by rw [← htodo]; exact atR_self hmode
  unfold nextA at h
  split at h
  · rename_i r ha
    have hout := act_sound (b := cf) (a := ⟨cf.tmps, cf.defers⟩) (rest := rest) (k := k) (ccs := ccs) hP hs ho hw hρ (fun hr => by rw [hself]; exact hrd hr) ha
    have val : ∀ v m' nx', (∃ E' M' v' w', HS C.G C.V W0 Q E' M' m' nx' w' ∧ Later nx E M m E' M' m' ∧ nx ≤ nx' ∧ RV E' v v' ∧
        Steps P (lone (cf.atR ⟨cf.tmps, cf.defers⟩ (.inRegion ops (i :: rest) :: k)) ccs w) (lone (cf.atR ((⟨cf.tmps, cf.defers⟩ : Act).put o.dst v') (.inRegion ops rest :: k)) ccs w')) → mkS as m' (finishA C af v m' nx') = some s' →
        ∃ fr' ccs' w', Steps P (lone cf ccs w) (lone fr' ccs' w') ∧ RS C W0 Q cs s' fr' ccs' w' := by
      rintro v m' nx' ⟨E', M', v', w', h1, h2, h3, h4, h5⟩ hm
      unfold mkS at hm
      split at hm
      · rename_i fr' nx2 hfin
        injection hm with hm
        subst hm
        obtain ⟨k1, k2, k3, k4⟩ := finish_sound h1 (hf.later h2 (Nat.le_refl _) h3) (Nat.le_trans hB h3) hfin h4
        have hfin' := Frame.finish_atR cf ⟨cf.tmps, cf.defers⟩ ops i rest k v'
        rw [ho, Option.bind_some, hself] at hfin'
        rw [hself, ← hfin'] at h5
        exact ⟨_, ccs, w', h5, E', M', B, k1, Nat.le_trans (Nat.le_trans hB h3) k3, k2, RFs.later h2 hB hfs⟩
      · cases hm
    split at h
    · exact val _ _ _ hout h
    · exact val _ _ _ hout h
    · rename_i f args
      obtain ⟨args', h1, h2⟩ := hout
      unfold pushS at h
      split at h
      · rename_i g hg
        injection h with h
        subst h
        obtain ⟨k1, k2, k3⟩ := enter_sound (E := E) (M := M) (m := m) (nx := nx) hP hg h1
        have hst := h2 k1
        rw [hself] at hst
        exact ⟨_, _, w, .one hst, E, M, nx, hs, Nat.le_refl _, k2, B, hB, hf, hfs⟩
      · cases h
    · rename_i bl args
      obtain ⟨l, args', h1, h2, h3⟩ := hout
      unfold pushS at h
      split at h
      · rename_i g hg
        injection h with h
        subst h
        unfold roundA at hg
        split at hg
        · rename_i st pend lf lt n ps asg body hb
          split at hg
          · rename_i t' hset
            injection hg with hg
            subst hg
            obtain ⟨l', tm, d, q1, q2, q3, q4⟩ := hs.rhm.obj bl _ hb
            rw [h1] at q1
            injection q1 with q1
            subst q1
            obtain ⟨r1, r2, r3⟩ := setsT_spec n ps.toList args args'.toList lt t' tm hset h2 q3 q4
            have hsz : args'.size = ps.size := by
              have := h2.length
              simp only [Array.length_toList] at r1 this
              omega
            have hz : (ps.zip args').foldl (fun tmps (t, a) => tmps.setIfInBounds t a) tm = (ps.toList.zip args'.toList).foldl (fun tmps (t, a) => tmps.setIfInBounds t a) tm := by
              rw [← Array.foldl_toList, Array.toList_zip]
            have hy : (Instr.yield l.blk args').run P w = .ok (.round l.blk lf ((ps.zip args').foldl (fun tmps (t, a) => tmps.setIfInBounds t a) tm) asg body) w := by
              have hg : (getObj l.blk).run P w = .ok (.loop { state := st, pending := pend, fn := lf, tmps := tm, params := ps, assign := asg, body, defers := d }) w := by simp [getObj, Sem.run, q2]
              simp [Instr.yield, Instr.getLoop, hg, hsz]
            have hst := h3 _ _ _ _ hy
            rw [hself] at hst
            refine ⟨_, _, w, .one hst, E, M, nx, hs, Nat.le_refl _, ?_, B, hB, hf, hfs⟩
            refine ⟨rfl, rfl, rfl, ⟨l, h1, rfl⟩, ?_, trivial, ?_, fun _ => rfl⟩
            · simp only [Frame.round]
              rw [hz]; exact r3
            · simp only [Frame.round]
              rw [hz]; exact r2
          · cases hg
        · cases hg
      · cases h
    · rename_i d
      obtain ⟨d', h1, h2⟩ := hout
      unfold defS at h
      split at h
      · rename_i fn ops' o' rest' i' todo t1 nt ds ret dfr
        have hreg := hf.reg
        simp only [RReg] at hreg
        obtain ⟨ht, n, e1, e2, e3⟩ := hreg
        rw [htodo] at e1
        injection e1 with e1 e4
        injection e1 with e5 e6
        subst e5 e4
        have hlen : (ops.toList.drop i').length = ops.size - i' := by simp
        rw [← e2] at hlen
        simp only [List.length_cons] at hlen
        obtain ⟨n', rfl⟩ : ∃ n', n = n' + 1 := ⟨n - 1, by omega⟩
        rw [List.range'_succ] at e6
        injection e6 with e6 e7
        subst e6 e7
        have ho' : ops[i]? = some o' := by
          rw [← Array.getElem?_toList]
          have : (ops.toList.drop i)[0]? = some o' := by rw [← e2]; rfl
          simpa using this
        rw [ho] at ho'
        injection ho' with ho'
        subst ho'
        have hrest : rest' = ops.toList.drop (i + 1) := by
          have : (ops.toList.drop i).tail = rest' := by rw [← e2]; rfl
          rw [← this, List.tail_drop]
        have hro : cf.roundOf = none := hf.round
        have hst := h2 hro
        rw [hself] at hst
        unfold seqT at h
        split at h
        · rename_i t' hp
          injection h with h
          subst h
          have htm := ht.put hp hf.nt (undef_rv E) (d' :: cf.defers)
          refine ⟨_, ccs, w, .one hst, E, M, B, hs, hB, ?_, hfs⟩
          refine ⟨hf.fn, ?_, hf.kind, hf.round, ?_, ?_, ?_⟩
          · simp only at hret
            rw [hret]; rfl
          · simp only [Frame.atR]
            rw [put_size]; exact hf.nt
          · simp only [Frame.atR]
            rw [put_defs]
            exact ⟨h1, hf.ds⟩
          · exact ⟨htm, n', rfl, hrest, by omega⟩
        · cases h
      · cases h
  · cases h
end
end Go.Ev
namespace Go.Ev
set_option linter.unusedVariables false
set_option linter.unusedSimpArgs false

def RRd (E : Em) (round : Option Nat) (ro : Option Nat) : Prop := match round with
  | none => ro = none
  | some b => ∃ l : Loc, E.loc b = some l ∧ ro = some l.blk
theorem RRd.mono {E E' : Em} (h : E.le E') {r ro : Option Nat} (k : RRd E r ro) : RRd E' r ro := by
  cases r with
  | none => exact k
  | some b => obtain ⟨l, h1, h2⟩ := k; exact ⟨l, h.1 _ _ h1, h2⟩

section
variable {P : Program} {C : Ctx} {W0 : World} {Q : Nat → Prop} {E : Em} {M : Nat → Option AObj} {m : Tr AObj} {B nx : Nat} {w : World} {cs : List Frame}

/-- A region in the order of the text. -/
theorem seq_sound (hP : PrOk P C) {fn : FuncId} {ops : Array Oper} {rest : List Oper} {i : Nat} {todo : List Item} {t : Tr AV} {nt : Nat} {ds : List ADef} {dfr : Bool} {round : Option Nat} {as : List AFrame} {cf : Frame} {ccs : List Frame} {s' : AState}
    (hs : HS C.G C.V W0 Q E M m nx w) (hB : B ≤ nx) (hf : RF C E M m B nx false ⟨fn, .seq ops rest i, todo, t, nt, ds, false, dfr, round⟩ cf) (hfs : RFs C E M m cs B as ccs)
    (h : seqA C fn ops rest i todo t nt ds dfr round as m nx = some s') : ∃ fr' ccs' w', Steps P (lone cf ccs w) (lone fr' ccs' w') ∧ RS C W0 Q cs s' fr' ccs' w' := by
  have hreg := hf.reg
  simp only [RReg] at hreg
  obtain ⟨ht, n, h1, h2, h3⟩ := hreg
  have hmode : cf.mode = .run := hf.mode
  have hself : cf.atR ⟨cf.tmps, cf.defers⟩ cf.todo = cf := atR_self hmode
  rw [h1] at hself
  unfold seqA at h
  split at h
  · injection h with h
    subst h
    have hlen : (ops.toList.drop i).length = ops.size - i := by simp
    rw [← h2] at hlen
    simp only [List.length_nil] at hlen
    have hn : n = 0 := by omega
    subst hn
    have hst := stepR_region_end (P := P) (b := cf) (a := ⟨cf.tmps, cf.defers⟩) (k := todo) (cs := ccs) (w := w) (ops := ops)
    rw [List.range'_zero] at hself
    rw [hself] at hst
    refine ⟨_, ccs, w, .one hst, E, M, B, hs, hB, ?_, hfs⟩
    exact ⟨hf.fn, rfl, hf.kind, hf.round, hf.nt, hf.ds, ht, fun _ => rfl⟩
  · rename_i o rest
    have hlen : (ops.toList.drop i).length = ops.size - i := by simp
    rw [← h2] at hlen
    simp only [List.length_cons] at hlen
    obtain ⟨n', rfl⟩ : ∃ n', n = n' + 1 := ⟨n - 1, by omega⟩
    rw [List.range'_succ] at h1 hself
    have ho : ops[i]? = some o := by
      rw [← Array.getElem?_toList]
      have : (ops.toList.drop i)[0]? = some o := by rw [← h2]; rfl
      simpa using this
    have hrest : rest = ops.toList.drop (i + 1) := by
      have : (ops.toList.drop i).tail = rest := by rw [← h2]; rfl
      rw [← this, List.tail_drop]
    have hf' : RF C E M m B nx true ⟨fn, .seq ops (o :: rest) i, todo, t, nt, ds, false, dfr, round⟩ cf := { hf with reg := hf.reg }
    have hw : ∀ r, wantA ops.toList t o.guard = some r → Region.wanted o (yielded ops cf.tmps) = r := fun r hr =>
      wantA_sound (E := E) hr fun d j w x _ _ _ v hv => ht d v hv
    unfold operA at h
    split at h
    · rename_i b hb
      split at h
      · refine next_sound (t := t) hP hs hB hf' hfs rfl h1 ho (hw _ hb) (fun x _ => evo_sound (a := ⟨cf.tmps, cf.defers⟩) hs.gl ht x) (fun hr => recOk_sound hf hfs rfl rfl hr) h
      · unfold seqT at h
        split at h
        · rename_i t' hp
          injection h with h
          subst h
          have hst := stepR_unwanted (P := P) (b := cf) (a := ⟨cf.tmps, cf.defers⟩) (k := todo) (cs := ccs) (w := w) (rest := List.range' (i + 1) n') ho (hw _ hb)
          rw [hself] at hst
          refine ⟨_, ccs, w, .one hst, E, M, B, hs, hB, ?_, hfs⟩
          refine ⟨hf.fn, rfl, hf.kind, hf.round, ?_, ?_, ht.put hp hf.nt (undef_rv E) cf.defers, n', rfl, hrest, by omega⟩
          · simp only [Frame.atR]; rw [put_size]; exact hf.nt
          · simp only [Frame.atR]; rw [put_defs]; exact hf.ds
        · cases h
    · cases h

/-- A region that draws. -/
theorem dr_sound (hP : PrOk P C) {fn : FuncId} {pl : Plan} {p : Nat} {vals : Tr AV} {als : List (Nat × Nat × AObj)} {todo : List Item} {t : Tr AV} {nt : Nat} {ds : List ADef} {dfr : Bool} {round : Option Nat} {as : List AFrame} {cf : Frame} {ccs : List Frame} {s' : AState}
    (hs : HS C.G C.V W0 Q E M m nx w) (hB : B ≤ nx) (hf : RF C E M m B nx false ⟨fn, .dr pl p vals als, todo, t, nt, ds, false, dfr, round⟩ cf) (hfs : RFs C E M m cs B as ccs)
    (h : drA C fn todo t nt ds dfr round as m nx pl p vals als pl.effs[p]? = some s') : ∃ fr' ccs' w', Steps P (lone cf ccs w) (lone fr' ccs' w') ∧ RS C W0 Q cs s' fr' ccs' w' := by
  have hreg := hf.reg
  simp only [RReg] at hreg
  obtain ⟨ops, listed, fuel, tt, hd, hq, hu, htodo⟩ := hreg
  have hmode : cf.mode = .run := hf.mode
  have hself : cf.atR ⟨cf.tmps, cf.defers⟩ cf.todo = cf := atR_self hmode
  rw [htodo] at hself
  have hd' : DrC C E M m B nx ops pl p (p + 1) vals als t listed (⟨cf.tmps, cf.defers⟩ : Act).tmps := hd
  obtain ⟨E1, M1, w1, a1, l1, g1, g2, g3, g4, g5, g6, g7⟩ := dr_adv (b := cf) (k := todo) (ccs := ccs) hP (unl listed) (tt := tt) (Nat.le_refl _) hs hd' hq hu
  rw [hself] at g7
  simp only at g5 g6
  have hfs1 := RFs.later g2 (Nat.le_refl B) hfs
  -- the frame behind the advance
  have hround0 : RRd E round cf.roundOf := hf.round
  have hround : RRd E1 round cf.roundOf := hround0.mono g2.le
  have hdefs : RDs E1 ds a1.defers := by rw [g5]; exact hf.ds.mono g2.le
  have hnt : a1.tmps.size = nt := by rw [g6]; exact hf.nt
  unfold drA at h
  split at h
  · rename_i he
    rcases g7 with ⟨_, q2, q3⟩ | ⟨e, f3, t3, q1, _⟩
    · unfold drEnd at h
      split at h
      · rename_i t' hend
        injection h with h
        subst h
        have hmm := merged 0 true m als
        have hc : ∀ a ∈ als, (true || Nat.testBit 0 a.1) = true → Lst l1 a.1 := fun a ha _ => by
          obtain ⟨_, _, ⟨x, k1, k2, _⟩, _⟩ := g4.al a ha
          exact q2 _ (k2 ▸ (g4.ok.mem k1).2.2.2)
        obtain ⟨k1, k2⟩ := g1.merge g4 hmm hc
        have hst := stepR_region_end (P := P) (b := cf) (a := a1) (k := todo) (cs := ccs) (w := w1) (ops := ops)
        refine ⟨_, ccs, w1, Steps.trans q3 (.one hst), E1, M1, B, k1, hB, ?_, RFs.later k2 (Nat.le_refl B) hfs1⟩
        exact ⟨hf.fn, rfl, hf.kind, hround, hnt, hdefs, g4.all q2 hend, fun _ => rfl⟩
      · cases h
    · rw [he] at q1; cases q1
  · rename_i e he
    rcases g7 with ⟨q1, _⟩ | ⟨e', f3, t3, q1, q2, q3, q4⟩
    · rw [he] at q1; cases q1
    · rw [he] at q1
      injection q1 with q1
      subst q1
      have hem := g4.ok.eff.1 (List.mem_of_getElem? he)
      have hnl : ¬ Lst l1 e.i := fun hl => by have := (g4.eff p e he).1 hl; omega
      have ho := (g4.ok.mem hem.1).2.2.1
      -- the frame that stands at the effect
      let cf1 : Frame := cf.atR a1 (.inRegion ops (e.i :: Region.linearise.go .any ops f3 t3 (l1.setIfInBounds e.i true) []) :: todo)
      have hcf1 : ∀ (m1 : Tr AObj) (als1 : List (Nat × Nat × AObj)), DrC C E1 M1 m1 B nx ops pl p (p + 1) vals als1 t l1 a1.tmps → RF C E1 M1 m1 B nx true ⟨fn, .dr pl p vals als1, todo, t, nt, ds, false, dfr, round⟩ cf1 := fun m1 als1 hd1 =>
        ⟨hf.fn, rfl, hf.kind, hround, hnt, hdefs, ops, l1, f3, t3, hd1, e, he, q2, q3, rfl⟩
      have hrd : recOk as dfr round = true → cf1.roundOf = none ∧ tryRecover cf1 ccs = none := fun hr => recOk_sound (hcf1 m als g4) hfs1 rfl rfl hr
      unfold drOp at h
      split at h
      · rename_i b hb
        rw [g4.ok.opsEq] at hb
        split at h
        · unfold drEff at h
          split at h
          rename_i m1 als1 hmerge
          have hmm := merged e.bef false m als
          rw [hmerge] at hmm
          have hc : ∀ a ∈ als, (false || e.bef.testBit a.1) = true → Lst l1 a.1 := fun a ha hh => q2 _ (by simpa using hh)
          obtain ⟨k1, k2⟩ := g1.merge g4 hmm hc
          have hd1 := g4.merge hmm hc
          obtain ⟨fr', ccs', w', r1, r2⟩ := next_sound (t := envA t vals e.srcs) (ops := ops) (i := e.i) (k := todo) hP k1 hB (hcf1 m1 als1 hd1) (RFs.later k2 (Nat.le_refl B) hfs1) rfl rfl ho
            (g4.want hem.1 q2 hnl (Vle.refl _) hb) (g4.opers g1.gl hem.1 q2 hnl (Vle.refl _)) hrd h
          exact ⟨fr', ccs', w', Steps.trans q4 r1, r2⟩
        · unfold mkS at h
          split at h
          · rename_i fr' nx' hdr
            injection h with h
            subst h
            have hfin : finishA C ⟨fn, .dr pl p vals als, todo, t, nt, ds, false, dfr, round⟩ (.tup []) m nx = some (fr', nx') := by
              simp only [finishA, finDr, he]; exact hdr
            obtain ⟨k1, k2, k3, k4⟩ := finish_sound g1 (hcf1 m als g4) hB hfin (undef_rv E1)
            have hst := stepR_unwanted (P := P) (b := cf) (a := a1) (k := todo) (cs := ccs) (w := w1) (rest := Region.linearise.go .any ops f3 t3 (l1.setIfInBounds e.i true) []) ho (g4.want hem.1 q2 hnl (Vle.refl _) hb)
            have hfin' := Frame.finish_atR cf a1 ops e.i (Region.linearise.go .any ops f3 t3 (l1.setIfInBounds e.i true) []) todo undef
            rw [ho, Option.bind_some] at hfin'
            rw [← hfin'] at hst
            exact ⟨_, ccs, w1, Steps.trans q4 (.one hst), E1, M1, B, k1, Nat.le_trans hB k3, k2, hfs1⟩
          · cases h
      · cases h
end
end Go.Ev
namespace Go.Ev
set_option linter.unusedVariables false
set_option linter.unusedSimpArgs false

def pendT (p : Option Code) (k : List Item) : List Item := match p with
  | some c => .code c :: k
  | none => k

section
variable {P : Program} {C : Ctx} {W0 : World} {Q : Nat → Prop} {E : Em} {M : Nat → Option AObj} {m : Tr AObj} {B nx : Nat} {w : World} {cs : List Frame}

/-- A loop's block written. -/
theorem write_loop {b : Nat} {l : Loc} {st st' : LoopState} {pend pend' : Option Code} {lf n : Nat} {lt : Tr AV} {ps : Array Tmp} {asg body : Code} {tm : Array Value} {d : Nat} (hs : HS C.G C.V W0 Q E M m nx w) (hb : m.get b = some (.loop st pend lf lt n ps asg body)) (hl : E.loc b = some l)
    (hw : w.heap[l.blk]? = some (.loop { state := st, pending := pend, fn := lf, tmps := tm, params := ps, assign := asg, body, defers := d })) (ht : RT E lt tm) (hn : tm.size = n) :
    ∃ M', HS C.G C.V W0 Q E M' (m.set b (some (.loop st' pend' lf lt n ps asg body))) nx { w with heap := w.heap.setIfInBounds l.blk (.loop { state := st', pending := pend', fn := lf, tmps := tm, params := ps, assign := asg, body, defers := d }) } ∧
      Later nx E M m E M' (m.set b (some (.loop st' pend' lf lt n ps asg body))) := by
  have hlt := (Array.getElem?_eq_some_iff.1 hw).1
  have hget : ∀ i p, (m.set b (some (.loop st' pend' lf lt n ps asg body))).get i = some p → (i = b ∧ p = .loop st' pend' lf lt n ps asg body) ∨ (i ≠ b ∧ m.get i = some p) := by
    intro i p hp
    rw [get_set] at hp
    split at hp
    · injection hp with hp; rename_i e; exact .inl ⟨e, hp.symm⟩
    · rename_i e; exact .inr ⟨e, hp⟩
  have h5 : ∀ k, k ≠ l.blk → (w.heap.setIfInBounds l.blk (.loop { state := st', pending := pend', fn := lf, tmps := tm, params := ps, assign := asg, body, defers := d }))[k]? = w.heap[k]? := fun k hk => Array.getElem?_setIfInBounds_ne (Ne.symm hk)
  have ho : RObj E { w with heap := w.heap.setIfInBounds l.blk (.loop { state := st', pending := pend', fn := lf, tmps := tm, params := ps, assign := asg, body, defers := d }) } b (.loop st' pend' lf lt n ps asg body) :=
    ⟨l, tm, d, hl, by simp [hlt], ht, hn⟩
  have k1 := RH.write hs.rhm E.le_refl hb hl h5 hget (fun q hq => by rw [hl] at hq; injection hq with hq; rw [hq]) ho
  have k2 := Gone.write (w' := { w with heap := w.heap.setIfInBounds l.blk (.loop { state := st', pending := pend', fn := lf, tmps := tm, params := ps, assign := asg, body, defers := d }) }) hs.rhm E.le_refl hb rfl hl h5 hget (fun q hq => by rw [hl] at hq; injection hq with hq; rw [hq]) (by simp) rfl rfl rfl
  obtain ⟨a1, a2⟩ := hs.step k2 k1 hs.fr (Nat.le_refl _) (fun _ _ => rfl) (Dom.set hb rfl rfl)
  exact ⟨_, a1, a2⟩

theorem getLoop_run {l : Nat} {r : Loop} (h : w.heap[l]? = some (.loop r)) : (Instr.getLoop l).run P w = .ok r w := by
  have hg : (getObj l).run P w = .ok (.loop r) w := by simp [getObj, Sem.run, h]
  simp [Instr.getLoop, hg]

theorem setLoop_run {l : Nat} {r r' : Loop} (h : w.heap[l]? = some (.loop r)) : (setObj l (.loop r')).run P w = .ok () { w with heap := w.heap.setIfInBounds l (.loop r') } := by
  simp [setObj, Sem.run, h]

theorem rend_sound {fn : FuncId} {todo : List Item} {t : Tr AV} {nt : Nat} {ds : List ADef} {dfr : Bool} {round : Option Nat} {as : List AFrame} {b : Nat} {cf : Frame} {ccs : List Frame} {s' : AState}
    (hs : HS C.G C.V W0 Q E M m nx w) (hB : B ≤ nx) (hf : RF C E M m B nx false ⟨fn, .rend b, todo, t, nt, ds, false, dfr, round⟩ cf) (hfs : RFs C E M m cs B as ccs)
    (h : rendA fn todo t nt ds dfr round as m nx b = some s') : ∃ fr' ccs' w', Steps P (lone cf ccs w) (lone fr' ccs' w') ∧ RS C W0 Q cs s' fr' ccs' w' := by
  have hreg := hf.reg
  simp only [RReg] at hreg
  obtain ⟨ht, l, hl, htodo⟩ := hreg
  have hmode : cf.mode = .run := hf.mode
  have hself : cf.atR ⟨cf.tmps, cf.defers⟩ cf.todo = cf := atR_self hmode
  rw [htodo] at hself
  unfold rendA at h
  split at h
  · rename_i st pend lf lt n ps asg body hb
    obtain ⟨l', tm, d, q1, q2, q3, q4⟩ := hs.rhm.obj b _ hb
    rw [hl] at q1
    injection q1 with q1
    subst q1
    have go : st ≠ .busy → s' = ⟨⟨fn, .no, pendT pend todo, t, nt, ds, false, dfr, round⟩, as, m.set b (some (.loop .exhausted pend lf lt n ps asg body)), nx⟩ →
        ∃ fr' ccs' w', Steps P (lone cf ccs w) (lone fr' ccs' w') ∧ RS C W0 Q cs s' fr' ccs' w' := by
      intro hst hs'
      subst hs'
      obtain ⟨M', k1, k2⟩ := write_loop (st' := .exhausted) (pend' := pend) hs hb hl q2 q3 q4
      have hrun : (Instr.endLoop l.blk).run P w = .ok pend { w with heap := w.heap.setIfInBounds l.blk (.loop { state := .exhausted, pending := pend, fn := lf, tmps := tm, params := ps, assign := asg, body, defers := d }) } := by
        have h1 := getLoop_run (P := P) q2
        have h2 : (st == LoopState.busy) = false := by cases st <;> first | rfl | exact absurd rfl hst
        simp [Instr.endLoop, h1, h2, setLoop_run q2]
        exact fun e => absurd e hst
      refine ⟨cf.atR ⟨cf.tmps, cf.defers⟩ (pendT pend todo), ccs, _, .one ?_, E, M', B, k1, hB, ?_, RFs.later k2 hB hfs⟩
      · rw [← hself]
        refine step_lone_go ?_
        cases pend <;> simp [stepG, stepG.exec, Frame.atR, Sem.runT_eq, hrun, pendT]
      · have hround0 : RRd E round cf.roundOf := hf.round
        exact ⟨hf.fn, rfl, hf.kind, hround0, hf.nt, hf.ds, ht, fun _ => rfl⟩
    split at h
    · cases h
    · rename_i hst
      injection h with h
      exact go (fun e => hst e) h.symm
  · cases h
end
end Go.Ev
namespace Go.Ev
set_option linter.unusedVariables false
set_option linter.unusedSimpArgs false

section
variable {P : Program} {C : Ctx} {W0 : World} {Q : Nat → Prop} {E : Em} {M : Nat → Option AObj} {m : Tr AObj} {B nx : Nat} {w : World} {cs : List Frame}

/-- A frame that is about to leave its code. -/
def Leaves (P : Program) (cf : Frame) (jump : Option Code) : Prop :=
  (∀ ccs w, cf.roundOf = none → (jump = none ∨ jump = some .ret) → step P (lone cf ccs w) = .next (lone { cf with mode := .returning } ccs w)) ∧
  (∀ l v w w' c ccs, cf.roundOf = some l → cf.kind = .normal → (Instr.endRound l jump).run P w = .ok v w' → step P (lone cf (c :: ccs) w) = .next (lone (c.finish v) ccs w'))

theorem leaves_end {cf : Frame} {a : Act} (h : cf.atR a [] = cf) : Leaves P cf none := by
  refine ⟨fun ccs w hr _ => ?_, fun l v w w' c ccs hr hk he => ?_⟩
  · have := stepR_end (P := P) (b := cf) (a := a) (cs := ccs) (w := w) hr
    rw [h] at this; exact this
  · have := stepR_round_end (P := P) (b := cf) (a := a) (cs := ccs) (w := w) (c := c) hr hk he
    rw [h] at this; exact this
theorem leaves_ret {cf : Frame} {a : Act} {k : List Item} (h : cf.atR a (.code .ret :: k) = cf) : Leaves P cf (some .ret) := by
  refine ⟨fun ccs w hr _ => ?_, fun l v w w' c ccs hr hk he => ?_⟩
  · have := stepR_ret (P := P) (b := cf) (a := a) (k := k) (cs := ccs) (w := w) hr
    rw [h] at this; exact this
  · have := stepR_round_ret (P := P) (b := cf) (a := a) (k := k) (cs := ccs) (w := w) (c := c) hr hk he
    rw [h] at this; exact this
theorem leaves_exit {cf : Frame} {a : Act} {k : List Item} {id : Nat} (h : cf.atR a (.code (.exit id) :: k) = cf) (hx : exitTo id k = none) : Leaves P cf (some (.exit id)) := by
  refine ⟨fun ccs w hr hj => ?_, fun l v w w' c ccs hr hk he => ?_⟩
  · rcases hj with hj | hj <;> cases hj
  · have := stepR_round_exit (P := P) (b := cf) (a := a) (k := k) (cs := ccs) (w := w) (c := c) hr hk hx he
    rw [h] at this; exact this
theorem leaves_goto {cf : Frame} {a : Act} {k : List Item} {id : Nat} (h : cf.atR a (.code (.goto id) :: k) = cf) (hx : gotoIn id k = none) : Leaves P cf (some (.goto id)) := by
  refine ⟨fun ccs w hr hj => ?_, fun l v w w' c ccs hr hk he => ?_⟩
  · rcases hj with hj | hj <;> cases hj
  · have := stepR_round_goto (P := P) (b := cf) (a := a) (k := k) (cs := ccs) (w := w) (c := c) hr hk hx he
    rw [h] at this; exact this

theorem leave_sound {fn : FuncId} {todo todo' : List Item} {t : Tr AV} {nt : Nat} {ds : List ADef} {dfr : Bool} {round : Option Nat} {as : List AFrame} {cf : Frame} {ccs : List Frame} {s' : AState} {jump : Option Code}
    (hs : HS C.G C.V W0 Q E M m nx w) (hB : B ≤ nx) (hf : RF C E M m B nx false ⟨fn, .no, todo, t, nt, ds, false, dfr, round⟩ cf) (hfs : RFs C E M m cs B as ccs) (hl : Leaves P cf jump)
    (h : leaveA C fn todo' t nt ds dfr round as m nx jump = some s') : ∃ fr' ccs' w', Steps P (lone cf ccs w) (lone fr' ccs' w') ∧ RS C W0 Q cs s' fr' ccs' w' := by
  have hreg := hf.reg
  simp only [RReg] at hreg
  obtain ⟨ht, _⟩ := hreg
  have hround0 : RRd E round cf.roundOf := hf.round
  unfold leaveA at h
  split at h
  · have go : (jump = none ∨ jump = some .ret) → s' = ⟨⟨fn, .no, todo', t, nt, ds, true, dfr, none⟩, as, m, nx⟩ → ∃ fr' ccs' w', Steps P (lone cf ccs w) (lone fr' ccs' w') ∧ RS C W0 Q cs s' fr' ccs' w' := by
      intro hj hs'
      subst hs'
      refine ⟨_, ccs, w, .one (hl.1 ccs w hround0 hj), E, M, B, hs, hB, ?_, hfs⟩
      exact ⟨hf.fn, rfl, hf.kind, hround0, hf.nt, hf.ds, ht, fun hh => by cases hh⟩
    split at h
    · injection h with h; exact go (.inl rfl) h.symm
    · injection h with h; exact go (.inr rfl) h.symm
    · cases h
  · rename_i b
    obtain ⟨l, hlb, hro⟩ := hround0
    split at h
    · rename_i st pend lf lt n ps asg body c as' hb
      cases ccs with
      | nil => exact hfs.elim
      | cons cc ccs =>
        obtain ⟨B', hB', hc, hfs'⟩ := hfs
        obtain ⟨l', tm, d, q1, q2, q3, q4⟩ := hs.rhm.obj b _ hb
        rw [hlb] at q1
        injection q1 with q1
        subst q1
        obtain ⟨M', k1, k2⟩ := write_loop (st' := jmpS jump) (pend' := jump) hs hb hlb q2 q3 q4
        have hrun : (Instr.endRound l.blk jump).run P w = .ok (.bool jump.isNone) { w with heap := w.heap.setIfInBounds l.blk (.loop { state := jmpS jump, pending := jump, fn := lf, tmps := tm, params := ps, assign := asg, body, defers := d }) } := by
          have h1 := getLoop_run (P := P) q2
          cases jump <;> simp [Instr.endRound, h1, setLoop_run q2, jmpS]
        have hst := hl.2 l.blk _ w _ cc ccs hro hf.kind hrun
        simp only at h
        split at h
        · rename_i c' nx' hfin
          injection h with h
          subst h
          have hrv : RV E (.bool (jmpB jump)) (.bool jump.isNone) := by cases jump <;> exact .bool _
          obtain ⟨r1, r2, r3, r4⟩ := finish_sound k1 (hc.later (nx' := nx) k2 hB hB) (Nat.le_trans hB' hB) hfin hrv
          exact ⟨_, ccs, _, .one hst, E, M', B', r1, Nat.le_trans (Nat.le_trans hB' hB) r3, r2, RFs.later k2 (Nat.le_trans hB' hB) hfs'⟩
        · cases h
    · cases h
end
end Go.Ev
namespace Go.Ev
set_option linter.unusedVariables false
set_option linter.unusedSimpArgs false

section
variable {P : Program} {C : Ctx} {W0 : World} {Q : Nat → Prop} {E : Em} {M : Nat → Option AObj} {m : Tr AObj} {B nx : Nat} {w : World} {cs : List Frame}

theorem Later.trans {L L' : Nat} {E E' E'' : Em} {M M' M'' : Nat → Option AObj} {m m' m'' : Tr AObj} (h : Later L E M m E' M' m') (k : Later L' E' M' m' E'' M'' m'') (hL : L ≤ L') (hM : ∀ b o, M b = some o → b < L) : Later L E M m E'' M'' m'' :=
  ⟨Em.le_trans h.le k.le, fun b hb => (k.loc b (Nat.lt_of_lt_of_le hb hL)).trans (h.loc b hb), fun b hb h0 => k.gone b (Nat.lt_of_lt_of_le hb hL) (h.gone b hb h0), fun b o hb h0 => k.keep b o (h.keep b o hb h0) (h.gone b (hM b o hb) h0)⟩

theorem HS.dom (hs : HS C.G C.V W0 Q E M m nx w) : ∀ b o, M b = some o → b < nx := fun b o hb => by
  obtain ⟨l, hl, _⟩ := (hs.rh.obj b o hb).loc
  rcases Nat.lt_or_ge b nx with h1 | h1
  · exact h1
  · rw [(hs.fr b h1).1] at hl; cases hl

/-- One block more. -/
theorem HS.more {w' : World} {o : AObj} {ob : Obj} {x : Nat} (hs : HS C.G C.V W0 Q E M m nx w) (hw : w'.heap = w.heap.push ob) (hsame : Same w w') (ho : RObj (E.add nx ⟨w.heap.size, 0, x⟩) w' nx o) (hwr : o.wr = true) :
    ∃ M', HS C.G C.V W0 Q (E.add nx ⟨w.heap.size, 0, x⟩) M' (m.set nx (some o)) (nx + 1) w' ∧ Later nx E M m (E.add nx ⟨w.heap.size, 0, x⟩) M' (m.set nx (some o)) := by
  have hf0 : E.loc nx = none := (hs.fr nx (Nat.le_refl _)).1
  have hget : (m.set nx (some o)).get = fun b => if b = nx then some o else m.get b := funext fun b => get_set _ _ _ _
  have k1 : RH (E.add nx ⟨w.heap.size, 0, x⟩) (m.set nx (some o)).get w' := by rw [hget]; exact RH.alloc hs.rhm hf0 hw ho
  have k2 : Gone E m.get w (E.add nx ⟨w.heap.size, 0, x⟩) (m.set nx (some o)).get w' := by rw [hget]; exact Gone.alloc hs.rhm hf0 hw hsame.1 hsame.2.1 hsame.2.2
  obtain ⟨a, b⟩ := hs.step k2 k1 (Em.fresh_add hs.fr) (Nat.le_succ _) (fun b hb => if_neg (by omega)) (Dom.new hwr)
  exact ⟨_, a, b⟩

/-- A frame that goes on with another rest. -/
theorem go_sound {fn : FuncId} {todo todo' : List Item} {t : Tr AV} {nt : Nat} {ds : List ADef} {dfr : Bool} {round : Option Nat} {as : List AFrame} {cf : Frame} {ccs : List Frame} {s' : AState}
    (hs : HS C.G C.V W0 Q E M m nx w) (hB : B ≤ nx) (hf : RF C E M m B nx false ⟨fn, .no, todo, t, nt, ds, false, dfr, round⟩ cf) (hfs : RFs C E M m cs B as ccs)
    (hst : step P (lone (cf.atR ⟨cf.tmps, cf.defers⟩ todo) ccs w) = .next (lone (cf.atR ⟨cf.tmps, cf.defers⟩ todo') ccs w))
    (h : goA fn todo' t nt ds dfr round as m nx = some s') : ∃ fr' ccs' w', Steps P (lone cf ccs w) (lone fr' ccs' w') ∧ RS C W0 Q cs s' fr' ccs' w' := by
  have hreg := hf.reg
  simp only [RReg] at hreg
  obtain ⟨ht, htodo⟩ := hreg
  have hmode : cf.mode = .run := hf.mode
  have hself : cf.atR ⟨cf.tmps, cf.defers⟩ cf.todo = cf := atR_self hmode
  rw [htodo trivial] at hself
  rw [hself] at hst
  injection h with h
  subst h
  have hround0 : RRd E round cf.roundOf := hf.round
  exact ⟨_, ccs, w, .one hst, E, M, B, hs, hB, ⟨hf.fn, rfl, hf.kind, hround0, hf.nt, hf.ds, ht, fun _ => rfl⟩, hfs⟩

theorem code_sound (hP : PrOk P C) {fn : FuncId} {c : Code} {k : List Item} {t : Tr AV} {nt : Nat} {ds : List ADef} {dfr : Bool} {round : Option Nat} {as : List AFrame} {cf : Frame} {ccs : List Frame} {s' : AState}
    (hs : HS C.G C.V W0 Q E M m nx w) (hB : B ≤ nx) (hf : RF C E M m B nx false ⟨fn, .no, .code c :: k, t, nt, ds, false, dfr, round⟩ cf) (hfs : RFs C E M m cs B as ccs)
    (h : codeA C fn c k t nt ds dfr round as m nx = some s') : ∃ fr' ccs' w', Steps P (lone cf ccs w) (lone fr' ccs' w') ∧ RS C W0 Q cs s' fr' ccs' w' := by
  have hreg := hf.reg
  simp only [RReg] at hreg
  obtain ⟨ht, htodo⟩ := hreg
  have htodo := htodo trivial
  have hmode : cf.mode = .run := hf.mode
  have hself : cf.atR ⟨cf.tmps, cf.defers⟩ cf.todo = cf := atR_self hmode
  rw [htodo] at hself
  have hround0 : RRd E round cf.roundOf := hf.round
  cases c with
  | skip => exact go_sound hs hB hf hfs stepR_skip h
  | label l => exact go_sound hs hB hf hfs stepR_label h
  | seq a b => exact go_sound hs hB hf hfs stepR_seq h
  | block id b => exact go_sound hs hB hf hfs stepR_block h
  | loop b => exact go_sound hs hB hf hfs stepR_loop h
  | scope b => exact go_sound hs hB hf hfs (step_lone_go (by simp [stepG, stepG.exec, Frame.atR])) h
  | refuse y => cases h
  | cond x a b =>
    have h : condA fn a b k t nt ds dfr round as m nx (evo C.G t x) = some s' := h
    have hx := evo_sound (a := ⟨cf.tmps, cf.defers⟩) hs.gl ht x
    unfold condA at h
    split at h
    · rename_i r hr
      rw [hr] at hx
      have hx := hx.bool_inv
      split at h
      · exact go_sound hs hB hf hfs (stepR_cond hx) h
      · exact go_sound hs hB hf hfs (stepR_cond hx) h
    · cases h
  | ret => exact leave_sound hs hB hf hfs (leaves_ret hself) h
  | exit id =>
    have h : jumpA C fn k t nt ds dfr round as m nx (.exit id) (exitTo id k) = some s' := h
    unfold jumpA at h
    split at h
    · rename_i k' hk
      exact go_sound hs hB hf hfs (stepR_exit hk) h
    · rename_i hk
      exact leave_sound hs hB hf hfs (leaves_exit hself hk) h
  | goto l =>
    have h : jumpA C fn k t nt ds dfr round as m nx (.goto l) (gotoIn l k) = some s' := h
    unfold jumpA at h
    split at h
    · rename_i k' hk
      exact go_sound hs hB hf hfs (stepR_goto hk) h
    · rename_i hk
      exact leave_sound hs hB hf hfs (leaves_goto hself hk) h
  | region id ops draw =>
    cases draw with
    | false =>
      have h : some (⟨⟨fn, .seq ops ops.toList 0, k, t, nt, ds, false, dfr, round⟩, as, m, nx⟩ : AState) = some s' := h
      injection h with h
      subst h
      have hst := stepR_region (P := P) (b := cf) (a := ⟨cf.tmps, cf.defers⟩) (k := k) (cs := ccs) (w := w) (ops := ops) (id := id)
      rw [hself] at hst
      refine ⟨_, ccs, w, .one hst, E, M, B, hs, hB, ⟨hf.fn, rfl, hf.kind, hround0, hf.nt, hf.ds, ht, ops.size, ?_, by simp, by omega⟩, hfs⟩
      simp [Frame.atR, List.range_eq_range']
    | true =>
      have h : drawA C fn k t nt ds dfr round as m nx (planOf C.T ops) = some s' := h
      unfold drawA at h
      split at h
      · rename_i pl hpl
        split at h
        · rename_i hb
          unfold drawS at h
          split at h
          · rename_i vals als nx' hpass
            injection h with h
            subst h
            have hok := planOf_ok hpl
            have hst := stepR_region_draw (P := P) (b := cf) (a := ⟨cf.tmps, cf.defers⟩) (k := k) (cs := ccs) (w := w) (ops := ops) (id := id)
            rw [hself] at hst
            simp only [Region.schedule, hP.mixed, Bool.true_or, if_true, Region.linearise] at hst
            have hs' : HS C.G C.V W0 Q E M m nx { w with drawn := w.drawn + 1 } := ⟨hs.rh.of_heap rfl, hs.sub, hs.fr, hs.gl, hs.vl, hs.old, hs.lim, hs.hq, hs.size, hs.os, hs.tape, hs.out⟩
            have hnone : ∀ i, ¬ Lst (Array.replicate ops.size false) i := fun i hl => by
              unfold Lst at hl
              rw [Array.getElem?_replicate] at hl
              split at hl
              · injection hl with hl; cases hl
              · cases hl
            have hd0 : DrC C E M m B nx ops pl 0 0 .e [] t (Array.replicate ops.size false) cf.tmps := by
              refine ⟨hok, by simp, fun x _ hl => absurd hl (hnone _), fun q e he => ⟨fun hl => absurd hl (hnone _), fun hq => by omega⟩, Nat.zero_le _, ?_, fun x _ hl => absurd hl (hnone _), fun d v hv _ => ht d v hv,
                fun a ha => (by cases ha), List.nodup_nil, List.nodup_nil, fun x _ _ hlo => by omega⟩
              intro x hx d hd
              have := lall_spec _ _ hb x hx
              rw [hd] at this
              have h1 : Nat.blt d nt = true := this
              have h2 : d < nt := Nat.le_of_ble_eq_true h1
              have hnt : cf.tmps.size = nt := hf.nt
              exact hnt.symm ▸ h2
            obtain ⟨k1, k2, k3⟩ := hd0.pass hs' hB hpass
            refine ⟨_, ccs, _, .one hst, E, M, B, { hs' with fr := Em.fresh_mono hs'.fr k3 }, Nat.le_trans hB k3, ?_, hfs⟩
            refine ⟨hf.fn, rfl, hf.kind, hround0, hf.nt, hf.ds, ops, _, ops.size, _, k1, k2, ?_, rfl⟩
            simp [unl]
          · cases h
        · cases h
      · cases h
  | rangeFunc f params asg body =>
    replace h : rangeA C fn f params asg body k t nt ds dfr round as m nx = some s' := h
    unfold rangeA at h
    split at h
    · rename_i g first cap hfe
      split at h
      · rename_i hI
        split at h
        · rename_i gf hg
          injection h with h
          subst h
          have hx := evo_sound (a := ⟨cf.tmps, cf.defers⟩) hs.gl ht f
          rw [hfe] at hx
          obtain ⟨x', y', hx1, hx2, hfv⟩ := hx.func_inv
          have hro : cf.roundOf = none := hround0
          -- the two blocks
          let w1 : World := { w with heap := w.heap.push (.deferred (some [])) }
          let lp : Loop := { state := .ready, pending := none, fn := cf.fn, tmps := cf.tmps, params, assign := asg, body, defers := w.heap.size }
          let w2 : World := { w1 with heap := w1.heap.push (.loop lp) }
          obtain ⟨M1, a1, a2⟩ := hs.more (w' := w1) (o := .defs) (x := 0) rfl ⟨rfl, rfl, rfl⟩ ⟨_, Em.loc_add E nx _, by simp [w1]⟩ rfl
          have hle1 : E.le (E.add nx ⟨w.heap.size, 0, 0⟩) := Em.le_add (hs.fr nx (Nat.le_refl _)).1
          have hsz1 : w1.heap.size = w.heap.size + 1 := by simp [w1]
          have hf1 : (E.add nx ⟨w.heap.size, 0, 0⟩).loc (nx + 1) = none := (a1.fr (nx + 1) (Nat.le_refl _)).1
          have hle2 : (E.add nx ⟨w.heap.size, 0, 0⟩).le ((E.add nx ⟨w.heap.size, 0, 0⟩).add (nx + 1) ⟨w1.heap.size, 0, 0⟩) := Em.le_add hf1
          have hfn : cf.fn = fn := hf.fn
          obtain ⟨M2, b1, b2⟩ := a1.more (w' := w2) (o := .loop .ready none fn t nt params asg body) (x := 0) rfl ⟨rfl, rfl, rfl⟩
            ⟨_, cf.tmps, w.heap.size, Em.loc_add _ (nx + 1) _, by simp [w2, lp, hfn], (ht.mono hle1).mono hle2, hf.nt⟩ rfl
          have hlat := a2.trans b2 (Nat.le_succ _) hs.dom
          -- what is called
          have hyv : RV ((E.add nx ⟨w.heap.size, 0, 0⟩).add (nx + 1) ⟨w1.heap.size, 0, 0⟩) (.yield (nx + 1)) (.func (.yield w1.heap.size) #[] #[]) := .yield (nx + 1) ⟨w1.heap.size, 0, 0⟩ (Em.loc_add _ (nx + 1) _)
          have hargs : RVs ((E.add nx ⟨w.heap.size, 0, 0⟩).add (nx + 1) ⟨w1.heap.size, 0, 0⟩) (first ++ [.yield (nx + 1)] ++ cap) (x' ++ #[Value.func (.yield w1.heap.size) #[] #[]] ++ y').toList := by
            rw [Array.toList_append, Array.toList_append]
            exact (((hx1.mono hle1).mono hle2).append (.cons _ _ _ _ hyv .nil)).append ((hx2.mono hle1).mono hle2)
          obtain ⟨⟨fx, hfx⟩, k2, k3⟩ := enter_sound (E := (E.add nx ⟨w.heap.size, 0, 0⟩).add (nx + 1) ⟨w1.heap.size, 0, 0⟩) (M := M2) (m := (m.set nx (some .defs)).set (nx + 1) (some (.loop .ready none fn t nt params asg body))) (nx := nx + 2) hP hg hargs
          have hcall := hP.calls g fx hfx (x' ++ #[.func (.yield w1.heap.size) #[] #[]] ++ y') w2
          let cf1 : Frame := { cf with todo := .inRangeFunc w1.heap.size :: k, defers := { target := .collected w.heap.size, args := #[] } :: cf.defers }
          have hst : step P (lone cf ccs w) = .next (lone (Frame.enter P g (x' ++ #[.func (.yield w1.heap.size) #[] #[]] ++ y') .normal) (cf1 :: ccs) w2) := by
            have hen : (Instr.enterLoop cf.fn cf.tmps params asg body cf.roundOf).run P w = .ok (w1.heap.size, [{ target := .collected w.heap.size, args := #[] }]) w2 := by
              rw [hro]
              simp only [Instr.enterLoop, Sem.run_bind, run_newObj, Result.andThen_ok, Sem.run_pure]
              rfl
            have hres : (resolve (⟨cf.tmps, cf.defers⟩ : Act).eval (rangeCall f w1.heap.size) 0).run P w2 = .ok { target := .fn (.func g) y', args := x' ++ #[.func (.yield w1.heap.size) #[] #[]] } w2 := by
              simp only [resolve, rangeCall, hfv]
              simp [Deferred.ofValue, Act.eval]
            have hinv : (invoke (.fn (.func g) y') (x' ++ #[.func (.yield w1.heap.size) #[] #[]])).run P w2 = .ok (.enter g (x' ++ #[.func (.yield w1.heap.size) #[] #[]] ++ y')) w2 := hcall
            have := stepR_rangeFunc (b := cf) (a := ⟨cf.tmps, cf.defers⟩) (k := k) (cs := ccs) hen hres hinv
            rw [hself] at this
            rw [this]
            simp [cf1, Frame.atR, hmode]
          refine ⟨_, _, w2, .one hst, _, M2, nx + 2, b1, Nat.le_refl _, k2, B, by omega, ?_, RFs.later (hlat.less hB) (Nat.le_refl B) hfs⟩
          refine ⟨hf.fn, hmode, hf.kind, hround0, hf.nt, ?_, ?_⟩
          · exact ⟨⟨_, #[], hle2.1 _ _ (Em.loc_add E nx _), rfl⟩, ((hf.ds.mono hle1).mono hle2)⟩
          · exact ⟨(ht.mono hle1).mono hle2, _, Em.loc_add _ (nx + 1) _, rfl⟩
        · cases h
      · cases h
    · cases h
end
end Go.Ev
namespace Go.Ev
set_option linter.unusedVariables false
set_option linter.unusedSimpArgs false

section
variable {P : Program} {C : Ctx} {W0 : World} {Q : Nat → Prop} {E : Em} {M : Nat → Option AObj} {m : Tr AObj} {B nx : Nat} {w : World} {cs : List Frame}

theorem begin_sound {fn : FuncId} {k : List Item} {t : Tr AV} {nt : Nat} {ds : List ADef} {dfr : Bool} {round : Option Nat} {as : List AFrame} {cf : Frame} {ccs : List Frame} {s' : AState}
    (hs : HS C.G C.V W0 Q E M m nx w) (hB : B ≤ nx) (hf : RF C E M m B nx false ⟨fn, .no, .beginRound :: k, t, nt, ds, false, dfr, round⟩ cf) (hfs : RFs C E M m cs B as ccs)
    (h : beginA fn k t nt ds dfr round as m nx = some s') : ∃ fr' ccs' w', Steps P (lone cf ccs w) (lone fr' ccs' w') ∧ RS C W0 Q cs s' fr' ccs' w' := by
  have hreg := hf.reg
  simp only [RReg] at hreg
  obtain ⟨ht, htodo⟩ := hreg
  have htodo := htodo trivial
  have hmode : cf.mode = .run := hf.mode
  have hself : cf.atR ⟨cf.tmps, cf.defers⟩ cf.todo = cf := atR_self hmode
  rw [htodo] at hself
  have hround0 : RRd E round cf.roundOf := hf.round
  unfold beginA at h
  split at h
  · rename_i b
    split at h
    · rename_i pend lf lt n ps asg body hb
      injection h with h
      subst h
      obtain ⟨l, hlb, hro⟩ := hround0
      obtain ⟨l', tm, d, q1, q2, q3, q4⟩ := hs.rhm.obj b _ hb
      rw [hlb] at q1
      injection q1 with q1
      subst q1
      obtain ⟨M', k1, k2⟩ := write_loop (st' := .busy) (pend' := pend) hs hb hlb q2 q3 q4
      have hrun : (Instr.beginRound l.blk).run P w = .ok () { w with heap := w.heap.setIfInBounds l.blk (.loop { state := .busy, pending := pend, fn := lf, tmps := tm, params := ps, assign := asg, body, defers := d }) } := by
        have h1 := getLoop_run (P := P) q2
        simp [Instr.beginRound, h1, setLoop_run q2]
      have hst := stepR_beginRound (P := P) (b := cf) (a := ⟨cf.tmps, cf.defers⟩) (k := k) (cs := ccs) hro hrun
      rw [hself] at hst
      refine ⟨_, ccs, _, .one hst, E, M', B, k1, hB, ?_, RFs.later k2 hB hfs⟩
      exact ⟨hf.fn, rfl, hf.kind, ⟨l, hlb, hro⟩, hf.nt, hf.ds, ht, fun _ => rfl⟩
    · cases h
  · cases h

theorem todo_sound (hP : PrOk P C) {fn : FuncId} {todo : List Item} {t : Tr AV} {nt : Nat} {ds : List ADef} {dfr : Bool} {round : Option Nat} {as : List AFrame} {cf : Frame} {ccs : List Frame} {s' : AState}
    (hs : HS C.G C.V W0 Q E M m nx w) (hB : B ≤ nx) (hf : RF C E M m B nx false ⟨fn, .no, todo, t, nt, ds, false, dfr, round⟩ cf) (hfs : RFs C E M m cs B as ccs)
    (h : todoA C fn todo t nt ds dfr round as m nx = some s') : ∃ fr' ccs' w', Steps P (lone cf ccs w) (lone fr' ccs' w') ∧ RS C W0 Q cs s' fr' ccs' w' := by
  have hreg := hf.reg
  simp only [RReg] at hreg
  obtain ⟨ht, htodo⟩ := hreg
  have htodo := htodo trivial
  have hmode : cf.mode = .run := hf.mode
  have hself : cf.atR ⟨cf.tmps, cf.defers⟩ cf.todo = cf := atR_self hmode
  rw [htodo] at hself
  unfold todoA at h
  split at h
  · exact leave_sound hs hB hf hfs (leaves_end hself) h
  · rename_i i k
    unfold itemA at h
    split at h
    · exact code_sound hP hs hB hf hfs h
    · exact go_sound hs hB hf hfs stepR_inBlock h
    · exact go_sound hs hB hf hfs (step_lone_go (by simp [stepG, stepG.exec, Frame.atR])) h
    · exact go_sound hs hB hf hfs stepR_inLoop h
    · exact begin_sound hs hB hf hfs h
    · cases h

def resF (tm : Array Value) : ResultVar → Sem Value
  | .tmp t => pure (tm.getD t undef)
  | .cell a t => do loadVar t (← asAddr (tm.getD a undef))
theorem results_eq (fn : Func) (tm : Array Value) : results fn tm = (do let vs ← fn.results.mapM (resF tm); pure (if h : vs.size = 1 then vs[0] else .tuple vs)) := by
  have : (fun x : ResultVar => match x with | .tmp t => (pure (tm.getD t undef) : Sem Value) | .cell a t => do loadVar t (← asAddr (tm.getD a undef))) = resF tm := funext fun x => by cases x <;> rfl
  rw [← this]
  rfl

/-- What a frame answers. -/
theorem res_list {E : Em} {t : Tr AV} {tm : Array Value} (hP : PrOk P C) (hm : RH E m.get w) (ht : RT E t tm) : ∀ (rs : List ResultVar) (l : List AV), resA C t m rs = some l →
    ∃ vs : List Value, (rs.mapM (resF tm)).run P w = .ok vs w ∧ RVs E l vs
  | [], l, h => by
    have h : some [] = some l := h
    injection h with h
    subst h
    exact ⟨[], by simp [List.mapM_nil], .nil⟩
  | x :: rs, l, h => by
    rw [resA_cons] at h
    cases x with
    | tmp i =>
      simp only at h
      split at h
      · rename_i v l' hv hl
        injection h with h
        subst h
        obtain ⟨vs, h1, h2⟩ := res_list hP hm ht rs l' hl
        obtain ⟨u, hu, hru⟩ := ht i v hv
        refine ⟨u :: vs, ?_, .cons _ _ _ _ hru h2⟩
        rw [List.mapM_cons]
        have hg : (resF tm (.tmp i)).run P w = .ok u w := by simp [resF, hu]
        simp only [Sem.run_bind, Sem.run_pure, Result.andThen_ok, h1, hg]
      · cases h
    | cell a ty =>
      simp only at h
      split at h
      · rename_i p ti l' hv hty hl
        split at h
        · rename_i v hld
          injection h with h
          subst h
          obtain ⟨vs, h1, h2⟩ := res_list hP hm ht rs l' hl
          obtain ⟨u, hu, hru⟩ := ht a p hv
          obtain ⟨v', hv1, hv2⟩ := loadA_sound hP.tys hty hm hld hru
          have hp : ∃ ad, u = .pointer (some ad) := by
            unfold loadA at hld
            split at hld
            · obtain ⟨l, _, rfl⟩ := hru.ptr_inv; exact ⟨_, rfl⟩
            · cases hld
          obtain ⟨ad, rfl⟩ := hp
          have hlv : (loadVar ty ad).run P w = .ok v' w := by
            simpa [Instr.loadAt, Instr.sureAddr] using hv1
          refine ⟨v' :: vs, ?_, .cons _ _ _ _ hv2 h2⟩
          rw [List.mapM_cons]
          have hg : tm.getD a undef = .pointer (some ad) := by simp [Array.getD_eq_getD_getElem?, hu]
          have hg2 : (resF tm (.cell a ty)).run P w = .ok v' w := by
            simp only [resF, Sem.run_bind, hg, asAddr, Sem.run_pure, Result.andThen_ok, hlv]
          simp only [Sem.run_bind, Sem.run_pure, Result.andThen_ok, h1, hg2]
        · cases h
      · cases h

theorem res_sound {E : Em} {t : Tr AV} {tm : Array Value} (hP : PrOk P C) (hm : RH E m.get w) (ht : RT E t tm) {fn : Func} {rs : List ResultVar} {l : List AV} (hr : fn.results.toList = rs) (h : resA C t m rs = some l) :
    ∃ v, (results fn tm).run P w = .ok v w ∧ RV E (oneA l) v := by
  subst hr
  obtain ⟨vs, h1, h2⟩ := res_list hP hm ht _ _ h
  have hrun : (results fn tm).run P w = .ok (if h : vs.toArray.size = 1 then vs.toArray[0] else .tuple vs.toArray) w := by
    rw [results_eq, Array.mapM_eq_mapM_toList]
    simp only [Sem.run_bind, map_eq_pure_bind, Sem.run_pure]
    rw [h1]
    simp
  refine ⟨_, hrun, ?_⟩
  cases h2 with
  | nil => exact .tup [] #[] .nil
  | cons v w' vs' ws' a b =>
    cases b with
    | nil => simpa [oneA] using a
    | cons v2 w2 vs2 ws2 a2 b2 =>
      simp only [List.size_toArray, List.length_cons]
      rw [dif_neg (by omega)]
      exact .tup _ _ (.cons _ _ _ _ a (.cons _ _ _ _ a2 b2))

/-- A block that goes. -/
theorem HS.drop {b : Nat} {o : AObj} {l : Loc} {ob : Obj} (hs : HS C.G C.V W0 Q E M m nx w) (hb : m.get b = some o) (hw : o.wr = true) (hl : E.loc b = some l) :
    ∃ M', HS C.G C.V W0 Q E M' (m.set b none) nx { w with heap := w.heap.setIfInBounds l.blk ob } ∧ Later nx E M m E M' (m.set b none) := by
  have hMb := hs.sub b o hb
  have hother : ∀ k, k ≠ l.blk → (w.heap.setIfInBounds l.blk ob)[k]? = w.heap[k]? := fun k hk => Array.getElem?_setIfInBounds_ne (Ne.symm hk)
  refine ⟨fun i => if i = b then none else M i, ⟨⟨?_, ?_⟩, ?_, hs.fr, hs.gl, hs.vl, ?_, ?_, hs.hq, by simpa using hs.size, hs.os, hs.tape, hs.out⟩, ⟨E.le_refl, fun _ _ => rfl, ?_, ?_⟩⟩
  · intro i p hp
    split at hp
    · cases hp
    · rename_i hi
      refine (hs.rh.obj i p hp).mono E.le_refl fun q hq => hother _ fun e => hi ?_
      exact hs.rh.inj i b p o q l hp hMb hq hl e
  · intro i j p q l1 l2 hi hj h1 h2 he
    split at hi
    · cases hi
    · split at hj
      · cases hj
      · exact hs.rh.inj i j p q l1 l2 hi hj h1 h2 he
  · intro i p hp
    rw [get_set] at hp
    split at hp
    · cases hp
    · rename_i hi
      simp only [if_neg hi]
      exact hs.sub i p hp
  · intro k hk
    rw [← hs.old k hk]
    exact hother k fun e => hs.lim b o l hMb hw hl (e ▸ hk)
  · intro i p l' hp hwr hl'
    split at hp
    · cases hp
    · exact hs.lim i p l' hp hwr hl'
  · intro i _ h0
    rw [get_set]
    split
    · rfl
    · exact h0
  · intro i p hp h0
    have : i ≠ b := fun e => by rw [e, hb] at h0; cases h0
    simp only [if_neg this]
    exact hp

theorem ret_sound (hP : PrOk P C) {fn : FuncId} {todo : List Item} {t : Tr AV} {nt : Nat} {ds : List ADef} {dfr : Bool} {round : Option Nat} {as : List AFrame} {cf : Frame} {ccs : List Frame} {s' : AState}
    (hs : HS C.G C.V W0 Q E M m nx w) (hB : B ≤ nx) (hf : RF C E M m B nx false ⟨fn, .no, todo, t, nt, ds, true, dfr, round⟩ cf) (hfs : RFs C E M m cs B as ccs)
    (h : retA C fn .no todo t nt ds dfr round as m nx = some s') : ∃ fr' ccs' w', Steps P (lone cf ccs w) (lone fr' ccs' w') ∧ RS C W0 Q cs s' fr' ccs' w' := by
  have hreg := hf.reg
  simp only [RReg] at hreg
  obtain ⟨ht, _⟩ := hreg
  have hmode : cf.mode = .returning := hf.mode
  have hround0 : RRd E round cf.roundOf := hf.round
  have hkind : cf.kind = if dfr then .deferred else .normal := hf.kind
  unfold retA at h
  split at h
  · rename_i f cap args ds'
    split at h
    · rename_i g hg
      injection h with h
      subst h
      have hd : RDs E (.call f cap args :: ds') cf.defers := hf.ds
      cases hcd : cf.defers with
      | nil => rw [hcd] at hd; exact hd.elim
      | cons d cds =>
        rw [hcd] at hd
        obtain ⟨⟨cv, av, h1, h2, h3⟩, h4⟩ := hd
        subst h1
        have hargs : RVs E (args ++ cap) (av ++ cv).toList := by rw [Array.toList_append]; exact h3.append h2
        obtain ⟨⟨x, hx⟩, k2, k3⟩ := enter_sound (E := E) (M := M) (m := m) (nx := nx) hP hg hargs
        have hinv : (invoke (.fn (.func f) cv) av).run P w = .ok (.enter f (av ++ cv)) w := hP.calls f x hx _ w
        have hst := step_defer (P := P) (fr := cf) (cs := ccs) (by rw [hmode]; exact fun e => by cases e) hcd rfl hinv
        refine ⟨_, _, w, .one hst, E, M, nx, hs, Nat.le_refl _, k2, B, hB, ?_, hfs⟩
        exact ⟨hf.fn, hmode, hf.kind, hround0, hf.nt, h4, ht, fun e => by cases e⟩
    · cases h
  · rename_i b ds'
    split at h
    · rename_i hb
      injection h with h
      subst h
      have hd : RDs E (.coll b :: ds') cf.defers := hf.ds
      cases hcd : cf.defers with
      | nil => rw [hcd] at hd; exact hd.elim
      | cons d cds =>
        rw [hcd] at hd
        obtain ⟨⟨l, av, h1, h2⟩, h4⟩ := hd
        subst h2
        obtain ⟨l', q1, q2⟩ := hs.rhm.obj b _ hb
        rw [h1] at q1
        injection q1 with q1
        subst q1
        obtain ⟨M', k1, k2⟩ := hs.drop (ob := .deferred none) hb rfl h1
        have hrun : (Instr.takeDeferred l.blk).run P w = .ok [] { w with heap := w.heap.setIfInBounds l.blk (.deferred none) } := by
          have hg : (getObj l.blk).run P w = .ok (.deferred (some [])) w := by simp [getObj, Sem.run, q2]
          have hset : (setObj l.blk (.deferred none)).run P w = .ok () { w with heap := w.heap.setIfInBounds l.blk (.deferred none) } := by simp [setObj, Sem.run, q2]
          simp [Instr.takeDeferred, hg, hset]
        have hst : step P (lone cf ccs w) = .next (lone { cf with defers := cds } ccs { w with heap := w.heap.setIfInBounds l.blk (.deferred none) }) := by
          refine step_lone_go ?_
          simp [stepG, unwind, hmode, hcd, Sem.runT_eq, hrun, GStep.bare_after]
        refine ⟨_, ccs, _, .one hst, E, M', B, k1, hB, ?_, RFs.later k2 hB hfs⟩
        exact ⟨hf.fn, hmode, hf.kind, hround0, hf.nt, h4, ht, fun e => by cases e⟩
    · cases h
  · have hd : RDs E [] cf.defers := hf.ds
    have hcd : cf.defers = [] := by
      cases hcd : cf.defers with
      | nil => rfl
      | cons d cds => rw [hcd] at hd; exact hd.elim
    split at h
    · rename_i c as' body ntmps rs hfn
      split at h
      · rename_i l hres
        obtain ⟨fnd, h1, h2, h3, h4⟩ := hP.fns fn _ hfn
        have hcfn : cf.fn = fn := hf.fn
        obtain ⟨v, hv1, hv2⟩ := res_sound hP hs.rhm ht h4 hres
        cases ccs with
        | nil => exact hfs.elim
        | cons cc ccs =>
          obtain ⟨B', hB', hc, hfs'⟩ := hfs
          split at h
          · split at h
            · rename_i fn' todo' t' nt' ds' dfr' round'
              injection h with h
              subst h
              have hst := step_going_returned (P := P) (fr := cf) (c := cc) (cs := ccs) hkind ⟨hmode, hcd, fnd, hcfn ▸ h1, hv1⟩
              have hcm : cc.mode = .returning := hc.mode
              have hcc : ({ cc with mode := settle cc.mode } : Frame) = cc := by
                obtain ⟨a1, a2, a3, a4, a5, a6, a7⟩ := cc
                simp only at hcm
                subst hcm
                rfl
              rw [hcc] at hst
              refine ⟨cc, ccs, w, .one hst, E, M, B', hs, Nat.le_trans hB' hB, ?_, hfs'⟩
              have hc' := hc.later (Later.refl B E M m) (Nat.le_refl _) hB
              exact ⟨hc'.fn, hc'.mode, hc'.kind, hc'.round, hc'.nt, hc'.ds, hc'.reg⟩
            · cases h
          · split at h
            · rename_i c' nx' hfin
              injection h with h
              subst h
              have hst := step_leave_returned (P := P) (fr := cf) (c := cc) (cs := ccs) ⟨hmode, hcd, hkind, fnd, hcfn ▸ h1, hv1⟩
              obtain ⟨r1, r2, r3, r4⟩ := finish_sound hs (hc.later (nx' := nx) (Later.refl B E M m) (Nat.le_refl _) hB) (Nat.le_trans hB' hB) hfin hv2
              exact ⟨_, ccs, _, .one hst, E, M, B', r1, Nat.le_trans (Nat.le_trans hB' hB) r3, r2, hfs'⟩
            · cases h
      · cases h
    · cases h

/-- ONE STEP. -/
theorem astep_sound (hP : PrOk P C) {s s' : AState} {fr : Frame} {ccs : List Frame} {w : World} (hs : RS C W0 Q cs s fr ccs w) (h : astep C s = some s') :
    ∃ fr' ccs' w', Steps P (lone fr ccs w) (lone fr' ccs' w') ∧ RS C W0 Q cs s' fr' ccs' w' := by
  obtain ⟨⟨fn, reg, todo, t, nt, ds, ret, dfr, round⟩, as, m, nx⟩ := s
  obtain ⟨E, M, B, h1, h2, h3, h4⟩ := hs
  unfold astep at h
  simp only at h h1 h2 h3 h4
  split at h
  · split at h
    · exact ret_sound hP h1 h2 h3 h4 h
    · cases h
  · split at h
    · exact todo_sound hP h1 h2 h3 h4 h
    · unfold regA at h
      split at h
      · exact seq_sound hP h1 h2 h3 h4 h
      · exact dr_sound hP h1 h2 h3 h4 h
      · exact rend_sound h1 h2 h3 h4 h
      · cases h

theorem arun_succ (C : Ctx) (n : Nat) (s : AState) : arun C (n + 1) s = (match astep C s with | some s' => arun C n s' | none => s) := rfl

/-- MANY STEPS. -/
theorem arun_sound (hP : PrOk P C) : ∀ (n : Nat) {s : AState} {fr : Frame} {ccs : List Frame} {w : World}, RS C W0 Q cs s fr ccs w →
    ∃ fr' ccs' w', Steps P (lone fr ccs w) (lone fr' ccs' w') ∧ RS C W0 Q cs (arun C n s) fr' ccs' w'
  | 0, s, fr, ccs, w, hs => ⟨fr, ccs, w, .refl P _, hs⟩
  | n + 1, s, fr, ccs, w, hs => by
    rw [arun_succ]
    split
    · rename_i s1 h1
      obtain ⟨fr1, ccs1, w1, k1, k2⟩ := astep_sound hP hs h1
      obtain ⟨fr2, ccs2, w2, k3, k4⟩ := arun_sound hP n k2
      exact ⟨fr2, ccs2, w2, Steps.trans k1 k3, k4⟩
    · exact ⟨fr, ccs, w, .refl P _, hs⟩
end
end Go.Ev
