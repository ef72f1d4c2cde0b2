/- ImageNew answers true for every number of words, whatever lies in memory, where the listed package variables hold what the program's text lays in them. This text is a part of that proof. -/
import Derived.Test.YtdgpahkdoponiaaGreatDoorEd
import Derived.Orders
namespace Go.Ev
set_option linter.unusedVariables false
set_option linter.unusedSimpArgs false

/-! What an abstract state stands for. -/
def RDf (E : Em) : ADef → Deferred → Prop
  | .call f cap args, d => ∃ (cv av : Array Value), d = { target := .fn (.func f) cv, args := av } ∧ RVs E cap cv.toList ∧ RVs E args av.toList
  | .coll b, d => ∃ (l : Loc) (av : Array Value), E.loc b = some l ∧ d = { target := .collected l.blk, args := av }

def RDs (E : Em) : List ADef → List Deferred → Prop
  | [], [] => True
  | a :: as, d :: ds => RDf E a d ∧ RDs E as ds
  | _, _ => False

theorem RDf.mono {E E' : Em} (h : E.le E') {a : ADef} {d : Deferred} (r : RDf E a d) : RDf E' a d := by
  cases a with
  | call f cap args => obtain ⟨cv, av, h1, h2, h3⟩ := r; exact ⟨cv, av, h1, h2.mono h, h3.mono h⟩
  | coll b => obtain ⟨l, av, h1, h2⟩ := r; exact ⟨l, av, h.1 _ _ h1, h2⟩
theorem RDs.mono {E E' : Em} (h : E.le E') : ∀ {as : List ADef} {ds : List Deferred}, RDs E as ds → RDs E' as ds
  | [], [], _ => trivial
  | _ :: _, _ :: _, ⟨a, b⟩ => ⟨a.mono h, RDs.mono h b⟩
  | [], _ :: _, h => h.elim
  | _ :: _, [], h => h.elim

def Lst (listed : Array Bool) (i : Nat) : Prop := listed[i]? = some true
def Vle (a b : Tr AV) : Prop := ∀ i v, a.get i = some v → b.get i = some v
theorem Vle.refl (a : Tr AV) : Vle a a := fun _ _ h => h
theorem Vle.trans {a b c : Tr AV} (h : Vle a b) (k : Vle b c) : Vle a c := fun i v e => k i v (h i v e)
theorem Vle.set {a : Tr AV} {i : Nat} {v : AV} (h : a.get i = none) : Vle a (a.set i (some v)) := fun j u e => by
  rw [get_set]
  split
  · rename_i hj; subst hj; rw [h] at e; cases e
  · exact e

/-- A region under way, its operations done in any order that is allowed: those listed are done. -/
structure DrC (C : Ctx) (E : Em) (M : Nat → Option AObj) (m : Tr AObj) (B nx : Nat) (ops : Array Oper) (pl : Plan) (p lp : Nat) (vals : Tr AV) (als : List (Nat × Nat × AObj)) (t : Tr AV) (listed : Array Bool) (tm : Array Value) : Prop where
  ok : PlanOk ops pl
  size : listed.size = ops.size
  clo : ∀ x ∈ pl.l, Lst listed x.i → ∀ j, x.bef.testBit j = true → Lst listed j
  eff : ∀ (q : Nat) (e : POp), pl.effs[q]? = some e → (Lst listed e.i ↔ q < p)
  ple : p ≤ pl.effs.length
  bnd : ∀ x ∈ pl.l, ∀ d, x.o.dst = some d → d < tm.size
  new : ∀ x ∈ pl.l, Lst listed x.i → ∃ v, vals.get x.i = some v ∧ ∀ d, x.o.dst = some d → ∃ u, tm[d]? = some u ∧ RV E v u
  old : ∀ d v, t.get d = some v → (∀ x ∈ pl.l, x.o.dst = some d → ¬ Lst listed x.i) → ∃ u, tm[d]? = some u ∧ RV E v u
  al : ∀ a ∈ als, m.get a.2.1 = none ∧ (B ≤ a.2.1 ∧ a.2.1 < nx) ∧ (∃ x ∈ pl.l, x.i = a.1 ∧ x.kd = 1 ∧ ∃ v, vals.get x.i = some v) ∧ (Lst listed a.1 → M a.2.1 = some a.2.2) ∧ (¬ Lst listed a.1 → E.loc a.2.1 = none)
  alu : (als.map (·.2.1)).Nodup
  ali : (als.map (·.1)).Nodup
  alc : ∀ x ∈ pl.l, x.kd = 1 → x.lo < lp → p ≤ x.hi → ¬ Lst listed x.i → ∃ v, vals.get x.i = some v ∧ ∃ vals0, Vle vals0 vals ∧
    ((∃ id ob, (x.i, id, ob) ∈ als ∧ certA C t vals0 ops.toList id x = some (v, some ob)) ∨ ((∃ id, certA C t vals0 ops.toList id x = some (v, none)) ∧ ∀ a ∈ als, a.1 ≠ x.i))

/-- What reads has been looked at in the heap as it is. -/
def DrQ (C : Ctx) (m : Tr AObj) (ops : Array Oper) (pl : Plan) (p : Nat) (vals : Tr AV) (t : Tr AV) : Prop :=
  ∀ x ∈ pl.l, x.kd ≠ 1 → x.kd ≠ 2 → x.lo ≤ p → p ≤ x.hi → ∃ v, vals.get x.i = some v ∧ ∃ vals0, Vle vals0 vals ∧ certQ C t vals0 ops.toList m x = some v

def unl (listed : Array Bool) : Nat := listed.toList.count false

def RReg (C : Ctx) (E : Em) (M : Nat → Option AObj) (m : Tr AObj) (B nx : Nat) (w ret : Bool) (reg : AReg) (t : Tr AV) (todo : List Item) (tm : Array Value) (ctodo : List Item) : Prop :=
  match reg with
  | .no => RT E t tm ∧ (ret = false → ctodo = todo)
  | .seq ops rest i => RT E t tm ∧ ∃ n, ctodo = .inRegion ops (List.range' i n) :: todo ∧ rest = ops.toList.drop i ∧ i + n = ops.size
  | .rfun b => RT E t tm ∧ ∃ l : Loc, E.loc b = some l ∧ ctodo = .inRangeFunc l.blk :: todo
  | .rend b => RT E t tm ∧ ∃ l : Loc, E.loc b = some l ∧ ctodo = .endRangeFunc l.blk :: todo
  | .dr pl p vals als => ∃ ops listed fuel tt, DrC C E M m B nx ops pl p (p + 1) vals als t listed tm ∧ (match w with
    | false => DrQ C m ops pl p vals t ∧ unl listed ≤ fuel ∧ ctodo = .inRegion ops (Region.linearise.go .any ops fuel tt listed []) :: todo
    | true => ∃ e, pl.effs[p]? = some e ∧ (∀ j, e.bef.testBit j = true → Lst listed j) ∧ unl (listed.setIfInBounds e.i true) ≤ fuel ∧
      ctodo = .inRegion ops (e.i :: Region.linearise.go .any ops fuel tt (listed.setIfInBounds e.i true) []) :: todo)

structure RF (C : Ctx) (E : Em) (M : Nat → Option AObj) (m : Tr AObj) (B nx : Nat) (w : Bool) (af : AFrame) (cf : Frame) : Prop where
  fn : cf.fn = af.fn
  mode : cf.mode = if af.ret then .returning else .run
  kind : cf.kind = if af.dfr then .deferred else .normal
  round : match af.round with
    | none => cf.roundOf = none
    | some b => ∃ l : Loc, E.loc b = some l ∧ cf.roundOf = some l.blk
  nt : cf.tmps.size = af.nt
  ds : RDs E af.ds cf.defers
  reg : RReg C E M m B nx w af.ret af.reg af.t af.todo cf.tmps cf.todo

/-- The frames below: what each has made ready lies below what the one above it may make. -/
def RFs (C : Ctx) (E : Em) (M : Nat → Option AObj) (m : Tr AObj) (cs : List Frame) : Nat → List AFrame → List Frame → Prop
  | _, [], ccs => ccs = cs
  | T, a :: as, c :: ccs => ∃ B, B ≤ T ∧ RF C E M m B T true a c ∧ RFs C E M m cs B as ccs
  | _, _ :: _, [] => False

/-- The heap, and what has not been touched since a beginning. -/
structure HS (G : Nat) (V : SV) (W0 : World) (Q : Nat → Prop) (E : Em) (M : Nat → Option AObj) (m : Tr AObj) (nx : Nat) (w : World) : Prop where
  rh : RH E M w
  sub : ∀ b o, m.get b = some o → M b = some o
  fr : E.fresh nx
  gl : E.gl G
  vl : E.v = V
  old : ∀ k, Q k → w.heap[k]? = W0.heap[k]?
  lim : ∀ b o l, M b = some o → o.wr = true → E.loc b = some l → ¬ Q l.blk
  hq : ∀ k, Q k → k < W0.heap.size
  size : W0.heap.size ≤ w.heap.size
  os : w.os = W0.os
  tape : w.tape = W0.tape
  out : w.output = W0.output

/-- From one state of the heap to a later one. -/
structure Later (L : Nat) (E : Em) (M : Nat → Option AObj) (m : Tr AObj) (E' : Em) (M' : Nat → Option AObj) (m' : Tr AObj) : Prop where
  le : E.le E'
  loc : ∀ b, b < L → E'.loc b = E.loc b
  gone : ∀ b, b < L → m.get b = none → m'.get b = none
  keep : ∀ b o, M b = some o → m.get b = none → M' b = some o

theorem Later.refl (L : Nat) (E : Em) (M : Nat → Option AObj) (m : Tr AObj) : Later L E M m E M m :=
  ⟨E.le_refl, fun _ _ => rfl, fun _ _ h => h, fun _ _ h _ => h⟩
theorem Later.less {L L' : Nat} {E E' : Em} {M M' : Nat → Option AObj} {m m' : Tr AObj} (h : Later L E M m E' M' m') (hl : L' ≤ L) : Later L' E M m E' M' m' :=
  ⟨h.le, fun b hb => h.loc b (Nat.lt_of_lt_of_le hb hl), fun b hb => h.gone b (Nat.lt_of_lt_of_le hb hl), h.keep⟩

theorem HS.step {G : Nat} {V : SV} {W0 : World} {Q : Nat → Prop} {E E' : Em} {M : Nat → Option AObj} {m m' : Tr AObj} {nx nx' : Nat} {w w' : World} (h : HS G V W0 Q E M m nx w)
    (hg : Gone E m.get w E' m'.get w') (hm : RH E' m'.get w') (hf : E'.fresh nx') (hn : nx ≤ nx') (hl : ∀ b, b < nx → E'.loc b = E.loc b) (hd : Dom m m' nx) :
    HS G V W0 Q E' (over m' m M) m' nx' w' ∧ Later nx E M m E' (over m' m M) m' := by
  have hM : ∀ b o, M b = some o → b < nx := fun b o hb => by
    obtain ⟨l, hl, _⟩ := (h.rh.obj b o hb).loc
    rcases Nat.lt_or_ge b nx with h1 | h1
    · exact h1
    · rw [(h.fr b h1).1] at hl; cases hl
  have hnone : ∀ b, b < nx → m.get b = none → m'.get b = none := by
    intro b hb h0
    cases h1 : m'.get b with
    | none => rfl
    | some o =>
      rcases hd b o h1 with h2 | ⟨_, ⟨o', h2, _⟩ | h2⟩
      · rw [h0] at h2; cases h2
      · rw [h0] at h2; cases h2
      · omega
  refine ⟨⟨h.rh.over h.sub h.fr hm hg hd, fun b o hb => over_new hb, hf, Em.gl_mono h.gl hg.le, hg.le.2.trans h.vl, ?_, ?_, h.hq, Nat.le_trans h.size hg.size, hg.os.trans h.os, hg.tape.trans h.tape, hg.output.trans h.out⟩,
    ⟨hg.le, hl, hnone, fun b o hb h0 => over_old (hnone b (hM b o hb) h0) h0 hb⟩⟩
  · intro k hk
    rw [← h.old k hk]
    exact hg.frm k (Nat.lt_of_lt_of_le (h.hq k hk) h.size) fun b o l hb hw hl he => h.lim b o l (h.sub b o hb) hw hl (he ▸ hk)
  · intro b o l hb hw hl hk
    rcases over_inv hb with h1 | ⟨h1, h2, h3⟩
    · rcases hg.own b o l h1 hw hl with ⟨b0, o0, l0, q1, q2, q3, q4⟩ | q
      · exact h.lim b0 o0 l0 (h.sub _ _ q1) q2 q3 (q4 ▸ hk)
      · have := h.hq _ hk
        have := h.size
        omega
    · obtain ⟨l2, k1, _⟩ := (h.rh.obj b o h3).loc
      have := hg.le.1 _ _ k1
      rw [hl] at this
      injection this with this
      subst this
      exact h.lim b o l h3 hw k1 hk

theorem HS.eff {G : Nat} {V : SV} {W0 : World} {Q : Nat → Prop} {E : Em} {M : Nat → Option AObj} {m m' : Tr AObj} {nx nx' : Nat} {w w' : World} {v : AV} {v' : Value} (h : HS G V W0 Q E M m nx w)
    (he : Eff E m nx w v m' nx' v' w') (hd : Dom m m' nx) : ∃ E' M', HS G V W0 Q E' M' m' nx' w' ∧ Later nx E M m E' M' m' ∧ nx ≤ nx' ∧ RV E' v v' := by
  obtain ⟨E', h1, h2, h3, h4, h5, h6⟩ := he
  obtain ⟨a, b⟩ := h.step h5 h4 h1 h2 h3 hd
  exact ⟨E', _, a, b, h2, h6⟩

theorem HS.rhm {G : Nat} {V : SV} {W0 : World} {Q : Nat → Prop} {E : Em} {M : Nat → Option AObj} {m : Tr AObj} {nx : Nat} {w : World} (h : HS G V W0 Q E M m nx w) : RH E m.get w := h.rh.sub h.sub

theorem DrC.later {C : Ctx} {E E' : Em} {M M' : Nat → Option AObj} {m m' : Tr AObj} {B L nx nx' : Nat} {ops : Array Oper} {pl : Plan} {p lp : Nat} {vals : Tr AV} {als : List (Nat × Nat × AObj)} {t : Tr AV} {listed : Array Bool} {tm : Array Value}
    (h : DrC C E M m B nx ops pl p lp vals als t listed tm) (k : Later L E M m E' M' m') (hL : nx ≤ L) (hn : nx ≤ nx') : DrC C E' M' m' B nx' ops pl p lp vals als t listed tm :=
  { h with
    new := fun x hx hl => let ⟨v, h1, h2⟩ := h.new x hx hl; ⟨v, h1, fun d hd => let ⟨u, h3, h4⟩ := h2 d hd; ⟨u, h3, h4.mono k.le⟩⟩
    old := fun d v hd hn => let ⟨u, h3, h4⟩ := h.old d v hd hn; ⟨u, h3, h4.mono k.le⟩
    al := fun a ha => let ⟨h1, h2, h3, h4, h5⟩ := h.al a ha; ⟨k.gone _ (Nat.lt_of_lt_of_le h2.2 hL) h1, ⟨h2.1, Nat.lt_of_lt_of_le h2.2 hn⟩, h3, fun hl => k.keep _ _ (h4 hl) h1, fun hl => (k.loc _ (Nat.lt_of_lt_of_le h2.2 hL)).trans (h5 hl)⟩ }

theorem RF.later {C : Ctx} {E E' : Em} {M M' : Nat → Option AObj} {m m' : Tr AObj} {B L nx nx' : Nat} {af : AFrame} {cf : Frame} (h : RF C E M m B nx true af cf) (k : Later L E M m E' M' m') (hL : nx ≤ L) (hn : nx ≤ nx') : RF C E' M' m' B nx' true af cf := by
  refine { h with round := ?_, ds := h.ds.mono k.le, reg := ?_ }
  · have := h.round
    split
    · rename_i hr; rw [hr] at this; exact this
    · rename_i b hr; rw [hr] at this; obtain ⟨l, h1, h2⟩ := this; exact ⟨l, k.le.1 _ _ h1, h2⟩
  · have := h.reg
    unfold RReg at this ⊢
    split
    · rename_i hr; simp only [hr] at this; exact ⟨this.1.mono k.le, this.2⟩
    · rename_i hr; simp only [hr] at this; exact ⟨this.1.mono k.le, this.2⟩
    · rename_i hr; simp only [hr] at this; obtain ⟨h1, l, h2, h3⟩ := this; exact ⟨h1.mono k.le, l, k.le.1 _ _ h2, h3⟩
    · rename_i hr; simp only [hr] at this; obtain ⟨h1, l, h2, h3⟩ := this; exact ⟨h1.mono k.le, l, k.le.1 _ _ h2, h3⟩
    · rename_i hr
      simp only [hr] at this
      obtain ⟨ops, listed, fuel, tt, h1, h2⟩ := this
      exact ⟨ops, listed, fuel, tt, h1.later k hL hn, h2⟩

theorem RFs.later {C : Ctx} {E E' : Em} {M M' : Nat → Option AObj} {m m' : Tr AObj} {L : Nat} {cs : List Frame} (k : Later L E M m E' M' m') : ∀ {T : Nat} {as : List AFrame} {ccs : List Frame}, T ≤ L → RFs C E M m cs T as ccs → RFs C E' M' m' cs T as ccs
  | _, [], _, _, h => h
  | _, _ :: _, _ :: _, hT, ⟨B, hB, a, b⟩ => ⟨B, hB, a.later k hT (Nat.le_refl _), RFs.later k (Nat.le_trans hB hT) b⟩
  | _, _ :: _, [], _, h => h.elim

/-- More may be made. -/
theorem RFs.up {C : Ctx} {E : Em} {M : Nat → Option AObj} {m : Tr AObj} {cs : List Frame} {T T' : Nat} (hT : T ≤ T') : ∀ {as : List AFrame} {ccs : List Frame}, RFs C E M m cs T as ccs → RFs C E M m cs T' as ccs
  | [], _, h => h
  | _ :: _, _ :: _, ⟨B, hB, a, b⟩ => ⟨B, Nat.le_trans hB hT, a.later (Later.refl T E M m) (Nat.le_refl _) hT, b⟩
  | _ :: _, [], h => h.elim

/-- The whole state. -/
def RS (C : Ctx) (W0 : World) (Q : Nat → Prop) (cs : List Frame) (s : AState) (fr : Frame) (ccs : List Frame) (w : World) : Prop :=
  ∃ E M B, HS C.G C.V W0 Q E M s.m s.nx w ∧ B ≤ s.nx ∧ RF C E M s.m B s.nx false s.fr fr ∧ RFs C E M s.m cs B s.cs ccs
end Go.Ev
namespace Go.Ev
set_option linter.unusedVariables false
set_option linter.unusedSimpArgs false

/-! Steps of one operation, in a frame of whatever round. -/
section op
variable {P : Program} {b : Frame} {a : Act} {k : List Item} {cs : List Frame} {w : World} {ops : Array Oper} {i : Nat} {rest : List Nat} {o : Oper}

theorem stepR_value {v : Value} {w' : World} (ho : ops[i]? = some o) (hw : Region.wanted o (yielded ops a.tmps) = true) (hd : ∀ c, o.op ≠ .defer c) (hr : (execOp a.eval o).run P w = .ok (.value v) w') :
    step P (lone (b.atR a (.inRegion ops (i :: rest) :: k)) cs w) = .next (lone (b.atR (a.put o.dst v) (.inRegion ops rest :: k)) cs w') := by
  have hfin := Frame.finish_atR b a ops i rest k v
  rw [ho, Option.bind_some] at hfin
  rw [← hfin]
  exact step_lone_go (by rw [stepGR_op ho hw, Oper.semAt_eq _ _ _ hd]; simp [stepG.apply, hr])

theorem stepR_skipped {w' : World} (ho : ops[i]? = some o) (hw : Region.wanted o (yielded ops a.tmps) = true) (hd : ∀ c, o.op ≠ .defer c) (hr : (execOp a.eval o).run P w = .ok .skip w') :
    step P (lone (b.atR a (.inRegion ops (i :: rest) :: k)) cs w) = .next (lone (b.atR (a.put o.dst undef) (.inRegion ops rest :: k)) cs w') := by
  have hfin := Frame.finish_atR b a ops i rest k undef
  rw [ho, Option.bind_some] at hfin
  rw [← hfin]
  exact step_lone_go (by rw [stepGR_op ho hw, Oper.semAt_eq _ _ _ hd]; simp [stepG.apply, hr])

theorem stepR_unwanted (ho : ops[i]? = some o) (hw : Region.wanted o (yielded ops a.tmps) = false) :
    step P (lone (b.atR a (.inRegion ops (i :: rest) :: k)) cs w) = .next (lone (b.atR (a.put o.dst undef) (.inRegion ops rest :: k)) cs w) := by
  have := stepR_op_skip (P := P) (b := b) (a := a) (k := k) (cs := cs) (w := w) (ops := ops) (i := i) (rest := rest) (by simp [ho, hw])
  rw [ho, Option.bind_some] at this
  exact this

theorem stepR_enter {f : FuncId} {args : Array Value} {w' : World} (ho : ops[i]? = some o) (hw : Region.wanted o (yielded ops a.tmps) = true) (hd : ∀ c, o.op ≠ .defer c) (hr : (execOp a.eval o).run P w = .ok (.enter f args) w') :
    step P (lone (b.atR a (.inRegion ops (i :: rest) :: k)) cs w) = .next (lone (Frame.enter P f args .normal) (b.atR a (.inRegion ops (i :: rest) :: k) :: cs) w') := by
  exact step_lone_go (by rw [stepGR_op ho hw, Oper.semAt_eq _ _ _ hd]; simp [stepG.apply, hr, Frame.atR])

theorem stepR_round {l f : Nat} {tm : Array Value} {asg bd : Code} {w' : World} (ho : ops[i]? = some o) (hw : Region.wanted o (yielded ops a.tmps) = true) (hd : ∀ c, o.op ≠ .defer c) (hr : (execOp a.eval o).run P w = .ok (.round l f tm asg bd) w') :
    step P (lone (b.atR a (.inRegion ops (i :: rest) :: k)) cs w) = .next (lone (Frame.round l f tm asg bd .normal) (b.atR a (.inRegion ops (i :: rest) :: k) :: cs) w') := by
  exact step_lone_go (by rw [stepGR_op ho hw, Oper.semAt_eq _ _ _ hd]; simp [stepG.apply, hr])

theorem stepR_recover {w' : World} (ho : ops[i]? = some o) (hw : Region.wanted o (yielded ops a.tmps) = true) (hd : ∀ c, o.op ≠ .defer c) (hr : (execOp a.eval o).run P w = .ok .recover w') (hro : b.roundOf = none)
    (ht : tryRecover (b.atR a (.inRegion ops (i :: rest) :: k)) cs = none) :
    step P (lone (b.atR a (.inRegion ops (i :: rest) :: k)) cs w) = .next (lone (b.atR (a.put o.dst .nilIface) (.inRegion ops rest :: k)) cs w') := by
  have hfin := Frame.finish_atR b a ops i rest k .nilIface
  rw [ho, Option.bind_some] at hfin
  rw [← hfin]
  have hro' : (b.atR a (.inRegion ops (i :: rest) :: k)).roundOf = none := hro
  exact step_lone_go (by rw [stepGR_op ho hw, Oper.semAt_eq _ _ _ hd]; simp [stepG.apply, hr, hro', ht])

theorem stepR_defer {d : Deferred} {c : Call} {w' : World} (ho : ops[i]? = some o) (hw : Region.wanted o (yielded ops a.tmps) = true) (hro : b.roundOf = none) (hr : (execOp a.eval o).run P w = .ok (.defer d) w') :
    step P (lone (b.atR a (.inRegion ops (i :: rest) :: k)) cs w) = .next (lone (b.atR (({ a with defers := d :: a.defers } : Act).put o.dst undef) (.inRegion ops rest :: k)) cs w') := by
  have hfin := Frame.finish_atR b { a with defers := d :: a.defers } ops i rest k undef
  rw [ho, Option.bind_some] at hfin
  rw [← hfin]
  exact step_lone_go (by rw [stepGR_op ho hw, hro, Oper.semAt_none]; simp [stepG.apply, hr, Frame.atR])
end op

/-- What is known of the program. -/
structure PrOk (P : Program) (C : Ctx) : Prop where
  tys : Tys P C.T
  fns : ∀ f x, C.F.get f = some x → ∃ fn, P.funcs[f]? = some fn ∧ fn.body = some x.body ∧ fn.ntmps = x.ntmps ∧ fn.results.toList = x.results
  calls : ∀ f x, C.F.get f = some x → ∀ args w, (callFunc f args).run P w = .ok (.enter f args) w
  mixed : P.follows .mixedOrders = true
  intr : ∀ f g, C.I f = some g → ∀ args m nx v m' nx', g args m nx = some (v, m', nx') → Dom m m' nx ∧ ∀ (E : Em) (w : World) (as : Array Value), RH E m.get w → E.fresh nx → E.v = C.V → RVs E args as.toList →
    (callFunc f as).run P w = .ok (.enter f as) w ∧ Calls P f as w (fun e w' => ∃ v', e = .returned v' ∧ Eff E m nx w v m' nx' v' w')

/-- What an operation comes to. -/
def ActOut (P : Program) (C : Ctx) (W0 : World) (Q : Nat → Prop) (E : Em) (M : Nat → Option AObj) (m : Tr AObj) (nx : Nat) (w : World) (b : Frame) (a : Act) (ops : Array Oper) (i : Nat) (rest : List Nat) (k : List Item) (ccs : List Frame) (o : Oper) : ANext → Prop
  | .val v m' nx' => ∃ E' M' v' w', HS C.G C.V W0 Q E' M' m' nx' w' ∧ Later nx E M m E' M' m' ∧ nx ≤ nx' ∧ RV E' v v' ∧
      Steps P (lone (b.atR a (.inRegion ops (i :: rest) :: k)) ccs w) (lone (b.atR (a.put o.dst v') (.inRegion ops rest :: k)) ccs w')
  | .intr _ _ v m' nx' => ∃ E' M' v' w', HS C.G C.V W0 Q E' M' m' nx' w' ∧ Later nx E M m E' M' m' ∧ nx ≤ nx' ∧ RV E' v v' ∧
      Steps P (lone (b.atR a (.inRegion ops (i :: rest) :: k)) ccs w) (lone (b.atR (a.put o.dst v') (.inRegion ops rest :: k)) ccs w')
  | .enter f args => ∃ args' : Array Value, RVs E args args'.toList ∧ ((∃ x, C.F.get f = some x) →
      step P (lone (b.atR a (.inRegion ops (i :: rest) :: k)) ccs w) = .next (lone (Frame.enter P f args' .normal) (b.atR a (.inRegion ops (i :: rest) :: k) :: ccs) w))
  | .round bl args => ∃ (l : Loc) (args' : Array Value), E.loc bl = some l ∧ RVs E args args'.toList ∧ ∀ f tm asg bd, (Instr.yield l.blk args').run P w = .ok (.round l.blk f tm asg bd) w →
      step P (lone (b.atR a (.inRegion ops (i :: rest) :: k)) ccs w) = .next (lone (Frame.round l.blk f tm asg bd .normal) (b.atR a (.inRegion ops (i :: rest) :: k) :: ccs) w)
  | .defer d => ∃ d', RDf E d d' ∧ (b.roundOf = none →
      step P (lone (b.atR a (.inRegion ops (i :: rest) :: k)) ccs w) = .next (lone (b.atR (({ a with defers := d' :: a.defers } : Act).put o.dst undef) (.inRegion ops rest :: k)) ccs w))

theorem act_sound {P : Program} {C : Ctx} {W0 : World} {Q : Nat → Prop} {E : Em} {M : Nat → Option AObj} {m : Tr AObj} {nx : Nat} {w : World} {b : Frame} {a : Act} {ops : Array Oper} {i : Nat} {rest : List Nat} {k : List Item} {ccs : List Frame} {o : Oper} {t : Tr AV} {rd : Bool} {r : ANext}
    (hP : PrOk P C) (hs : HS C.G C.V W0 Q E M m nx w) (ho : ops[i]? = some o) (hw : Region.wanted o (yielded ops a.tmps) = true) (hρ : ∀ x ∈ o.op.operands, RV E (evo C.G t x) (a.eval x))
    (hrd : rd = true → b.roundOf = none ∧ tryRecover (b.atR a (.inRegion ops (i :: rest) :: k)) ccs = none) (h : actA C t m nx rd o.op = some r) :
    ActOut P C W0 Q E M m nx w b a ops i rest k ccs o r := by
  -- operations without a call
  have plain : (∀ c, o.op ≠ .defer c) → plainA C t m nx o.op = some r → ActOut P C W0 Q E M m nx w b a ops i rest k ccs o r := by
    intro hd h
    unfold plainA at h
    split at h
    · rename_i v hq
      injection h with h
      subst h
      obtain ⟨v', h1, h2⟩ := qopX_sound hP.tys hs.rhm hq hρ
      exact ⟨E, M, v', w, hs, Later.refl _ _ _ _, Nat.le_refl _, h2, .one (stepR_value ho hw hd h1)⟩
    · unfold effA at h
      rw [eopF_eq] at h
      split at h
      · rename_i v m' nx' he
        injection h with h
        subst h
        obtain ⟨v', w', h1, h2⟩ := eop_sound hP.tys hs.rhm hs.fr he hρ
        obtain ⟨E', M', k1, k2, k4, k3⟩ := hs.eff h2 (eop_dom he)
        rcases h1 with h1 | ⟨h1, rfl⟩
        · exact ⟨E', M', v', w', k1, k2, k4, k3, .one (stepR_value ho hw hd h1)⟩
        · exact ⟨E', M', undef, w', k1, k2, k4, k3, .one (stepR_skipped ho hw hd h1)⟩
      · cases h
  obtain ⟨dst, op, ty, pos, after, guard⟩ := o
  simp only at hρ h plain
  unfold actA at h
  split at h
  · rename_i c
    have hd : ∀ c', Op.call c ≠ .defer c' := fun c' h => by cases h
    unfold callsA at h
    split at h
    · rename_i args ts
      cases rd with
      | false => cases h
      | true =>
        injection h with h
        subst h
        obtain ⟨h1, h2⟩ := hrd rfl
        exact ⟨E, M, .nilIface, w, hs, Later.refl _ _ _ _, Nat.le_refl _, .nili, .one (stepR_recover ho hw hd (by simp [execOp, resolve, invoke, builtin]) h1 h2)⟩
    · rename_i f args ts
      have hargs : RVs E (evs C.G t args.toList) (args.map a.eval).toList := by
        rw [evs_map, Array.toList_map]
        exact RVs.map _ _ _ fun x hx => hρ x (by simp [Op.operands, Call.operands]; simp at hx; simp [hx])
      have hf := hρ f (by simp [Op.operands, Call.operands])
      unfold valueA at h
      split at h
      · rename_i g first cap hfe
        rw [hfe] at hf
        obtain ⟨x', y', hx, hy, hfv⟩ := hf.func_inv
        have hall : RVs E (first ++ evs C.G t args.toList ++ cap) (x' ++ args.map a.eval ++ y').toList := by
          rw [Array.toList_append, Array.toList_append]
          exact (hx.append hargs).append hy
        have hrun : ∀ w0, (callFunc g (x' ++ args.map a.eval ++ y')).run P w0 = .ok (.enter g (x' ++ args.map a.eval ++ y')) w0 →
            (execOp a.eval ⟨dst, .call ⟨.value f, args, ts⟩, ty, pos, after, guard⟩).run P w0 = .ok (.enter g (x' ++ args.map a.eval ++ y')) w0 := by
          intro w0 hc
          rw [Array.append_assoc] at hc ⊢
          simp [execOp, resolve, hfv, Deferred.ofValue, invoke, hc]
        unfold callA at h
        split at h
        · rename_i gi hgi
          split at h
          · rename_i v m' nx' hg
            injection h with h
            subst h
            obtain ⟨hdom, hc⟩ := hP.intr g gi hgi _ _ _ _ _ _ hg
            obtain ⟨h1, h2⟩ := hc E w _ hs.rhm hs.fr hs.vl hall
            obtain ⟨e, w', fr, ⟨v', rfl, heff⟩, hsteps, _, hleave⟩ := h2 (b.atR a (.inRegion ops (i :: rest) :: k) :: ccs)
            obtain ⟨E', M', k1, k2, k4, k3⟩ := hs.eff heff hdom
            have hfin := Frame.finish_atR b a ops i rest k v'
            rw [ho, Option.bind_some] at hfin
            refine ⟨E', M', v', w', k1, k2, k4, k3, .head (stepR_enter ho hw hd (hrun w h1)) (Steps.trans hsteps (.one ?_))⟩
            rw [← hfin]
            exact step_leave_returned hleave
          · cases h
        · injection h with h
          subst h
          exact ⟨_, hall, fun ⟨x, hx⟩ => stepR_enter ho hw hd (hrun w (hP.calls g x hx _ w))⟩
      · rename_i bl hfe
        rw [hfe] at hf
        obtain ⟨l, hl, hfv⟩ := hf.yield_inv
        injection h with h
        subst h
        refine ⟨l, args.map a.eval, hl, hargs, fun f' tm asg bd hy => stepR_round ho hw hd ?_⟩
        simp [execOp, resolve, hfv, Deferred.ofValue, invoke, hy]
      · cases h
    · exact plain hd h
  · rename_i c
    obtain ⟨callee, args, ts⟩ := c
    cases callee with
    | value f =>
      simp only [defersA] at h
      have hargs : RVs E (evs C.G t args.toList) (args.map a.eval).toList := by
        rw [evs_map, Array.toList_map]
        exact RVs.map _ _ _ fun x hx => hρ x (by simp [Op.operands, Call.operands]; simp at hx; simp [hx])
      have hf := hρ f (by simp [Op.operands, Call.operands])
      unfold deferA at h
      split at h
      · rename_i g first cap hfe
        rw [hfe] at hf
        obtain ⟨x', y', hx, hy, hfv⟩ := hf.func_inv
        injection h with h
        subst h
        refine ⟨_, ⟨y', x' ++ args.map a.eval, rfl, hy, by rw [Array.toList_append]; exact hx.append hargs⟩, fun hro => stepR_defer (c := ⟨.value f, args, ts⟩) ho hw hro ?_⟩
        simp [execOp, resolve, hfv, Deferred.ofValue]
      · cases h
    | invoke r n => simp only [defersA] at h; cases h
    | builtin bb => simp only [defersA] at h; cases h
  · rename_i h1 h2
    exact plain (fun c hc => h2 c hc) h
end Go.Ev
namespace Go.Ev
set_option linter.unusedVariables false
set_option linter.unusedSimpArgs false

/-! Regions that draw their order. -/
theorem passA_cons (C : Ctx) (t : Tr AV) (ops : List Oper) (m : Tr AObj) (p : Nat) (x : POp) (l : List POp) (s : DS) :
    passA C t ops m p (x :: l) s = match passOne C t ops m p x s with | some s' => passA C t ops m p l s' | none => none := rfl

structure PassOut (C : Ctx) (t : Tr AV) (ops : List Oper) (m : Tr AObj) (p : Nat) (l : List POp) (vals : Tr AV) (als : List (Nat × Nat × AObj)) (nx : Nat) (vals' : Tr AV) (als' : List (Nat × Nat × AObj)) (nx' : Nat) : Prop where
  le : Vle vals vals'
  up : nx ≤ nx'
  news : ∃ new, als' = new ++ als ∧ (new.map (·.2.1)).Nodup ∧ (new.map (·.1)).Nodup ∧ ∀ a ∈ new, nx ≤ a.2.1 ∧ a.2.1 < nx' ∧ vals.get a.1 = none ∧ ∃ x ∈ l, x.i = a.1 ∧ x.kd = 1 ∧ ∃ v, vals'.get x.i = some v
  qs : ∀ x ∈ l, x.kd ≠ 1 → x.kd ≠ 2 → x.lo ≤ p → p ≤ x.hi → ∃ v, vals'.get x.i = some v ∧ ∃ vals0, Vle vals0 vals' ∧ certQ C t vals0 ops m x = some v
  made : ∀ x ∈ l, x.kd = 1 → x.lo = p → p ≤ x.hi → ∃ v, vals'.get x.i = some v ∧ ∃ vals0, Vle vals0 vals' ∧
    ((∃ id ob, (x.i, id, ob) ∈ als' ∧ certA C t vals0 ops id x = some (v, some ob)) ∨ ((∃ id, certA C t vals0 ops id x = some (v, none)) ∧ vals.get x.i = none ∧ ∀ a ∈ als', a.1 = x.i → a ∈ als))

theorem pass_spec {C : Ctx} {t : Tr AV} {ops : List Oper} {m : Tr AObj} {p : Nat} : ∀ (l : List POp) (vals : Tr AV) (als : List (Nat × Nat × AObj)) (nx : Nat) (vals' : Tr AV) (als' : List (Nat × Nat × AObj)) (nx' : Nat),
    passA C t ops m p l (vals, als, nx) = some (vals', als', nx') → PassOut C t ops m p l vals als nx vals' als' nx' := by
  intro l
  induction l with
  | nil =>
    intro vals als nx vals' als' nx' h
    have h : some (vals, als, nx) = some (vals', als', nx') := h
    injection h with h
    injection h with h1 h2
    injection h2 with h2 h3
    subst h1 h2 h3
    exact ⟨Vle.refl _, Nat.le_refl _, ⟨[], rfl, List.nodup_nil, List.nodup_nil, fun a h => (by cases h)⟩, fun x h => (by cases h), fun x h => (by cases h)⟩
  | cons x l ih =>
    intro vals als nx vals' als' nx' h
    rw [passA_cons] at h
    split at h
    · rename_i s' hs'
      obtain ⟨vals1, als1, nx1⟩ := s'
      have r := ih vals1 als1 nx1 vals' als' nx' h
      have back : Vle vals vals1 → (∀ a ∈ als1, a ∈ als ∨ ∃ u, vals1.get a.1 = some u ∧ a.1 = x.i) → ∀ y ∈ l, y.kd = 1 → y.lo = p → p ≤ y.hi → ∃ v, vals'.get y.i = some v ∧ ∃ vals0, Vle vals0 vals' ∧
          ((∃ id ob, (y.i, id, ob) ∈ als' ∧ certA C t vals0 ops id y = some (v, some ob)) ∨ ((∃ id, certA C t vals0 ops id y = some (v, none)) ∧ vals.get y.i = none ∧ ∀ a ∈ als', a.1 = y.i → a ∈ als)) := by
        intro hle hals y hy h1 h2 h3
        obtain ⟨v, q1, vals0, q2, q3⟩ := r.made y hy h1 h2 h3
        refine ⟨v, q1, vals0, q2, q3.imp id fun ⟨q4, q5, q6⟩ => ⟨q4, ?_, fun a ha he => ?_⟩⟩
        · cases hg : vals.get y.i with
          | none => rfl
          | some u => rw [hle _ _ hg] at q5; cases q5
        · rcases hals a (q6 a ha he) with h | ⟨u, hu, _⟩
          · exact h
          · rw [he, q5] at hu; cases hu
      -- nothing new in the first
      have keep : vals1 = vals → als1 = als → nx1 = nx →
          (x.kd ≠ 1 → x.kd ≠ 2 → x.lo ≤ p → p ≤ x.hi → ∃ v, vals'.get x.i = some v ∧ ∃ vals0, Vle vals0 vals' ∧ certQ C t vals0 ops m x = some v) →
          (x.kd = 1 → x.lo = p → p ≤ x.hi → False) → PassOut C t ops m p (x :: l) vals als nx vals' als' nx' := by
        intro e1 e2 e3 hq hm
        subst e1 e2 e3
        obtain ⟨new, n1, n2, n3, n4⟩ := r.news
        refine ⟨r.le, r.up, ⟨new, n1, n2, n3, fun a ha => ?_⟩, ?_, ?_⟩
        · obtain ⟨q1, q2, q3, y, q4, q5⟩ := n4 a ha
          exact ⟨q1, q2, q3, y, List.mem_cons_of_mem _ q4, q5⟩
        · intro y hy
          rcases List.mem_cons.1 hy with rfl | hy
          · exact hq
          · exact r.qs y hy
        · intro y hy
          rcases List.mem_cons.1 hy with rfl | hy
          · intro a b c; exact (hm a b c).elim
          · exact back (Vle.refl _) (fun a h => .inl h) y hy
      unfold passOne at hs'
      split at hs'
      · rename_i h2 hlo hhi
        have hk2 : x.kd ≠ 2 := fun e => by rw [e] at h2; cases h2
        have hlo := Nat.le_of_ble_eq_true hlo
        have hhi := Nat.le_of_ble_eq_true hhi
        split at hs'
        · rename_i h1 hp
          have hk1 : x.kd ≠ 1 := fun e => by rw [e] at h1; cases h1
          split at hs'
          · rename_i v hq h0
            injection hs' with hs'
            injection hs' with e1 e2
            injection e2 with e2 e3
            subst e1 e2 e3
            have hle1 : Vle vals (vals.set x.i (some v)) := Vle.set h0
            obtain ⟨new, n1, n2, n3, n4⟩ := r.news
            refine ⟨hle1.trans r.le, r.up, ⟨new, n1, n2, n3, fun a ha => ?_⟩, ?_, ?_⟩
            · obtain ⟨q1, q2, q3, y, q4, q5⟩ := n4 a ha
              refine ⟨q1, q2, ?_, y, List.mem_cons_of_mem _ q4, q5⟩
              cases hg : vals.get a.1 with
              | none => rfl
              | some u => have := hle1 _ _ hg; rw [this] at q3; cases q3
            · intro y hy
              rcases List.mem_cons.1 hy with rfl | hy
              · intro _ _ _ _
                exact ⟨v, r.le _ _ (by rw [get_set, if_pos rfl]), vals, hle1.trans r.le, hq⟩
              · exact r.qs y hy
            · intro y hy
              rcases List.mem_cons.1 hy with rfl | hy
              · intro a b c; exact absurd a hk1
              · exact back hle1 (fun a h => .inl h) y hy
          · cases hs'
        · rename_i h1 hp
          have hk1 : x.kd ≠ 1 := fun e => by rw [e] at h1; cases h1
          split at hs'
          · rename_i v v' hq h0
            split at hs'
            · rename_i hsame
              have := sameV_eq _ _ _ hsame
              subst this
              injection hs' with hs'
              injection hs' with e1 e2
              injection e2 with e2 e3
              subst e1 e2 e3
              exact keep rfl rfl rfl (fun _ _ _ _ => ⟨v, r.le _ _ h0, vals, r.le, hq⟩) (fun a _ _ => hk1 a)
            · cases hs'
          · cases hs'
        · rename_i h1 hp
          have hk1 : x.kd = 1 := Nat.eq_of_beq_eq_true h1
          have hp := Nat.eq_of_beq_eq_true hp
          split at hs'
          · rename_i v ob hc h0
            injection hs' with hs'
            injection hs' with e1 e2
            injection e2 with e2 e3
            subst e1 e2 e3
            have hle1 : Vle vals (vals.set x.i (some v)) := Vle.set h0
            have hxi : (vals.set x.i (some v)).get x.i = some v := by rw [get_set, if_pos rfl]
            obtain ⟨new, n1, n2, n3, n4⟩ := r.news
            have hup : nx + 1 ≤ nx' := r.up
            have n5 : ∀ a ∈ new, nx + 1 ≤ a.2.1 := fun a ha => (n4 a ha).1
            refine ⟨hle1.trans r.le, by omega, ⟨new ++ [(x.i, nx, ob)], by rw [n1, List.append_assoc]; rfl, ?_, ?_, fun a ha => ?_⟩, ?_, ?_⟩
            · rw [List.map_append, List.nodup_append]
              refine ⟨n2, by simp, ?_⟩
              intro a ha b hb
              obtain ⟨z, hz, rfl⟩ := List.mem_map.1 ha
              have := n5 z hz
              simp only [List.map_cons, List.map_nil, List.mem_singleton] at hb
              omega
            · rw [List.map_append, List.nodup_append]
              refine ⟨n3, by simp, ?_⟩
              intro a ha b hb he
              obtain ⟨z, hz, rfl⟩ := List.mem_map.1 ha
              simp only [List.map_cons, List.map_nil, List.mem_singleton] at hb
              have := (n4 z hz).2.2.1
              rw [he, hb, hxi] at this
              cases this
            · rcases List.mem_append.1 ha with ha | ha
              · obtain ⟨q1, q2, q3, y, q4, q5⟩ := n4 a ha
                have q1 := n5 a ha
                refine ⟨by omega, q2, ?_, y, List.mem_cons_of_mem _ q4, q5⟩
                cases hg : vals.get a.1 with
                | none => rfl
                | some u => have := hle1 _ _ hg; rw [this] at q3; cases q3
              · rw [List.mem_singleton] at ha
                subst ha
                exact ⟨Nat.le_refl _, (by show nx < nx'; omega), h0, x, List.mem_cons_self, rfl, hk1, v, r.le _ _ hxi⟩
            · intro y hy
              rcases List.mem_cons.1 hy with rfl | hy
              · intro a; exact absurd hk1 a
              · exact r.qs y hy
            · intro y hy
              rcases List.mem_cons.1 hy with rfl | hy
              · intro _ _ _
                refine ⟨v, r.le _ _ hxi, vals, hle1.trans r.le, .inl ⟨nx, ob, ?_, hc⟩⟩
                rw [n1]
                exact List.mem_append_right _ List.mem_cons_self
              · exact back hle1 (fun a h => by
                  rcases List.mem_cons.1 h with h | h
                  · exact .inr ⟨v, by rw [h]; exact hxi, by rw [h]⟩
                  · exact .inl h) y hy
          · rename_i v hc h0
            injection hs' with hs'
            injection hs' with e1 e2
            injection e2 with e2 e3
            subst e1 e2 e3
            have hle1 : Vle vals (vals.set x.i (some v)) := Vle.set h0
            have hxi : (vals.set x.i (some v)).get x.i = some v := by rw [get_set, if_pos rfl]
            obtain ⟨new, n1, n2, n3, n4⟩ := r.news
            refine ⟨hle1.trans r.le, r.up, ⟨new, n1, n2, n3, fun a ha => ?_⟩, ?_, ?_⟩
            · obtain ⟨q1, q2, q3, y, q4, q5⟩ := n4 a ha
              refine ⟨q1, q2, ?_, y, List.mem_cons_of_mem _ q4, q5⟩
              cases hg : vals.get a.1 with
              | none => rfl
              | some u => have := hle1 _ _ hg; rw [this] at q3; cases q3
            · intro y hy
              rcases List.mem_cons.1 hy with rfl | hy
              · intro a; exact absurd hk1 a
              · exact r.qs y hy
            · intro y hy
              rcases List.mem_cons.1 hy with rfl | hy
              · intro _ _ _
                refine ⟨v, r.le _ _ hxi, vals, hle1.trans r.le, .inr ⟨⟨nx, hc⟩, h0, fun a ha he => ?_⟩⟩
                rw [n1] at ha
                rcases List.mem_append.1 ha with ha | ha
                · have := (n4 a ha).2.2.1
                  rw [he, hxi] at this
                  cases this
                · exact ha
              · exact back hle1 (fun a h => .inl h) y hy
          · cases hs'
        · rename_i h1 hp
          have hk1 : x.kd = 1 := Nat.eq_of_beq_eq_true h1
          injection hs' with hs'
          injection hs' with e1 e2
          injection e2 with e2 e3
          exact keep e1.symm e2.symm e3.symm (fun a => absurd hk1 a) (fun _ e _ => by
            rw [e] at hp
            have hb : Nat.beq p p = true := by simp
            rw [hb] at hp; cases hp)
      · rename_i hno
        injection hs' with hs'
        injection hs' with e1 e2
        injection e2 with e2 e3
        have imp : x.kd ≠ 2 → x.lo ≤ p → p ≤ x.hi → False := fun a b c => hno
          (by cases hb : Nat.beq x.kd 2 with
              | false => rfl
              | true => exact absurd (Nat.eq_of_beq_eq_true hb) a) (Nat.ble_eq_true_of_le b) (Nat.ble_eq_true_of_le c)
        exact keep e1.symm e2.symm e3.symm (fun _ a b c => (imp a b c).elim) (fun a b c => imp (by omega) (by omega) c)
    · cases h
end Go.Ev
namespace Go.Ev
set_option linter.unusedVariables false
set_option linter.unusedSimpArgs false

section
variable {C : Ctx} {E : Em} {M : Nat → Option AObj} {m : Tr AObj} {B nx : Nat} {ops : Array Oper} {pl : Plan} {p lp : Nat} {vals : Tr AV} {als : List (Nat × Nat × AObj)} {t : Tr AV} {listed : Array Bool} {tm : Array Value}

/-- A pass: what may be looked at or made now is. -/
theorem DrC.pass {G : Nat} {Vv : SV} {W0 : World} {Q : Nat → Prop} {w : World} {vals' : Tr AV} {als' : List (Nat × Nat × AObj)} {nx' : Nat} (h : DrC C E M m B nx ops pl p p vals als t listed tm) (hs : HS G Vv W0 Q E M m nx w) (hB : B ≤ nx)
    (hp : passA C t pl.ops.toList m p pl.l (vals, als, nx) = some (vals', als', nx')) : DrC C E M m B nx' ops pl p (p + 1) vals' als' t listed tm ∧ DrQ C m ops pl p vals' t ∧ nx ≤ nx' := by
  rw [h.ok.opsEq] at hp
  have r := pass_spec _ _ _ _ _ _ _ hp
  obtain ⟨new, n1, n2, n3, n4⟩ := r.news
  have hM : ∀ b o, m.get b = some o → b < nx := fun b o hb => by
    obtain ⟨l, hl, _⟩ := (hs.rh.obj b o (hs.sub b o hb)).loc
    rcases Nat.lt_or_ge b nx with h1 | h1
    · exact h1
    · rw [(hs.fr b h1).1] at hl; cases hl
  refine ⟨{ h with new := ?_, al := ?_, alu := ?_, ali := ?_, alc := ?_ }, r.qs, r.up⟩
  · intro x hx hl
    obtain ⟨v, h1, h2⟩ := h.new x hx hl
    exact ⟨v, r.le _ _ h1, h2⟩
  · intro a ha
    rw [n1] at ha
    rcases List.mem_append.1 ha with ha | ha
    · obtain ⟨q1, q2, q3, x, q4, q5, q6, q7⟩ := n4 a ha
      refine ⟨?_, ⟨Nat.le_trans hB q1, q2⟩, ⟨x, q4, q5, q6, q7⟩, ?_, fun _ => (hs.fr _ q1).1⟩
      · cases hg : m.get a.2.1 with
        | none => rfl
        | some o => have := hM _ _ hg; omega
      · intro hl
        rw [← q5] at hl
        obtain ⟨v, h1, _⟩ := h.new x q4 hl
        rw [q5, q3] at h1; cases h1
    · obtain ⟨h1, h2, ⟨x, h3, h4, h5, v, h6⟩, h7, h8⟩ := h.al a ha
      exact ⟨h1, ⟨h2.1, Nat.lt_of_lt_of_le h2.2 r.up⟩, ⟨x, h3, h4, h5, v, r.le _ _ h6⟩, h7, h8⟩
  · rw [n1, List.map_append, List.nodup_append]
    refine ⟨n2, h.alu, ?_⟩
    intro a ha b hb he
    obtain ⟨z, hz, rfl⟩ := List.mem_map.1 ha
    obtain ⟨y, hy, rfl⟩ := List.mem_map.1 hb
    have h1 := (n4 z hz).1
    have h2 := (h.al y hy).2.1.2
    omega
  · rw [n1, List.map_append, List.nodup_append]
    refine ⟨n3, h.ali, ?_⟩
    intro a ha b hb he
    obtain ⟨z, hz, rfl⟩ := List.mem_map.1 ha
    obtain ⟨y, hy, rfl⟩ := List.mem_map.1 hb
    have h1 := (n4 z hz).2.2.1
    obtain ⟨_, _, ⟨x, _, h4, _, v, h6⟩, _⟩ := h.al y hy
    rw [he, ← h4, h6] at h1; cases h1
  · intro x hx hk hlo hhi hl
    by_cases e : x.lo = p
    · obtain ⟨v, h1, vals0, h2, h3⟩ := r.made x hx hk e hhi
      refine ⟨v, h1, vals0, h2, h3.imp id fun ⟨h4, h5, h6⟩ => ⟨h4, fun a ha he => ?_⟩⟩
      obtain ⟨_, _, ⟨y, k1, k2, _, u, k4⟩, _⟩ := h.al a (h6 a ha he)
      rw [k2, he, h5] at k4
      cases k4
    · obtain ⟨v, h1, vals0, h2, h3⟩ := h.alc x hx hk (by omega) hhi hl
      refine ⟨v, r.le _ _ h1, vals0, h2.trans r.le, h3.imp (fun ⟨id, ob, h4, h5⟩ => ⟨id, ob, by rw [n1]; exact List.mem_append_right _ h4, h5⟩) fun ⟨h4, h5⟩ => ⟨h4, fun a ha he => ?_⟩⟩
      rw [n1] at ha
      rcases List.mem_append.1 ha with ha | ha
      · have := (n4 a ha).2.2.1
        rw [he, h1] at this
        cases this
      · exact h5 a ha he

/-! Which comes next. -/
theorem Lst_set (listed : Array Bool) (i j : Nat) : Lst (listed.setIfInBounds i true) j ↔ Lst listed j ∨ (i = j ∧ i < listed.size) := by
  unfold Lst
  rw [Array.getElem?_setIfInBounds]
  by_cases h : i = j
  · subst h
    by_cases hlt : i < listed.size
    · simp [hlt]
    · simp [hlt]
  · simp [h]

theorem count_set_false : ∀ (l : List Bool) (i : Nat), l[i]? = some false → (l.set i true).count false + 1 = l.count false
  | [], i, h => by simp at h
  | b :: l, 0, h => by
    simp only [List.getElem?_cons_zero, Option.some.injEq] at h
    subst h
    simp
  | b :: l, i + 1, h => by
    simp only [List.getElem?_cons_succ] at h
    have := count_set_false l i h
    simp only [List.set_cons_succ, List.count_cons]
    omega

theorem unl_set {listed : Array Bool} {i : Nat} (hi : i < listed.size) (hn : ¬ Lst listed i) : unl (listed.setIfInBounds i true) + 1 = unl listed := by
  unfold unl
  rw [Array.toList_setIfInBounds]
  apply count_set_false
  unfold Lst at hn
  rw [Array.getElem?_toList]
  rw [Array.getElem?_eq_getElem hi] at hn ⊢
  cases h : listed[i] with
  | true => rw [h] at hn; exact absurd rfl hn
  | false => rfl

theorem mem_ready (listed : Array Bool) (hsz : listed.size = ops.size) (i : Nat) : i ∈ Region.ready .any ops listed ↔ ∃ o, ops[i]? = some o ∧ ¬ Lst listed i ∧ ∀ e ∈ o.after.toList, bindsA e = true → Lst listed e.on := by
  unfold Region.ready
  rw [List.mem_filter, List.mem_range, Bool.and_eq_true]
  constructor
  · rintro ⟨h1, h2, h3⟩
    have ho : ops[i]? = some ops[i] := Array.getElem?_eq_getElem h1
    refine ⟨_, ho, ?_, ?_⟩
    · intro hl
      unfold Lst at hl
      rw [Array.getD_eq_getD_getElem?, hl] at h2
      cases h2
    · intro e he hb
      rw [ho] at h3
      simp only [Option.map_some, Option.getD_some] at h3
      rw [← Array.all_toList, List.all_eq_true] at h3
      have := h3 e he
      rw [binds_any, hb] at this
      simp only [Bool.not_true, Bool.false_or] at this
      unfold Lst
      rw [Array.getD_eq_getD_getElem?] at this
      cases hg : listed[e.on]? with
      | none => rw [hg] at this; cases this
      | some b => rw [hg] at this; simp only [Option.getD_some] at this; rw [this]
  · rintro ⟨o, ho, hn, hall⟩
    have h1 := (Array.getElem?_eq_some_iff.1 ho).1
    refine ⟨h1, ?_, ?_⟩
    · rw [Array.getD_eq_getD_getElem?]
      unfold Lst at hn
      have hlt : i < listed.size := by omega
      rw [Array.getElem?_eq_getElem hlt] at hn ⊢
      cases hb : listed[i] with
      | true => rw [hb] at hn; exact absurd rfl hn
      | false => rfl
    · rw [ho]
      simp only [Option.map_some, Option.getD_some]
      rw [← Array.all_toList, List.all_eq_true]
      intro e he
      rw [binds_any]
      cases hb : bindsA e with
      | false => rfl
      | true =>
        have := hall e he hb
        unfold Lst at this
        simp [Array.getD_eq_getD_getElem?, this]

theorem DrC.next (h : DrC C E M m B nx ops pl p lp vals als t listed tm) {fuel tt : Nat} (hf : unl listed ≤ fuel) :
    ((∀ i, i < ops.size → Lst listed i) ∧ Region.linearise.go .any ops fuel tt listed [] = []) ∨
    ∃ x fuel' tt', x ∈ pl.l ∧ ¬ Lst listed x.i ∧ (∀ j, x.bef.testBit j = true → Lst listed j) ∧ unl (listed.setIfInBounds x.i true) ≤ fuel' ∧
      Region.linearise.go .any ops fuel tt listed [] = x.i :: Region.linearise.go .any ops fuel' tt' (listed.setIfInBounds x.i true) [] := by
  -- someone can go as long as someone is left
  have min : ∀ n, n ≤ ops.size → (∀ i, i < n → Lst listed i) ∨ ∃ i, i ∈ Region.ready .any ops listed := by
    intro n
    induction n with
    | zero => intro _; exact .inl fun i hi => by omega
    | succ n ih =>
      intro hn
      rcases ih (by omega) with hl | hr
      · by_cases hln : Lst listed n
        · left
          intro i hi
          rcases Nat.lt_or_ge i n with h1 | h1
          · exact hl i h1
          · have : i = n := by omega
            subst this; exact hln
        · right
          obtain ⟨x, h1, h2, h3, h4, h5⟩ := h.ok.get (i := n) (by omega)
          refine ⟨n, (mem_ready listed h.size n).2 ⟨x.o, h5, hln, fun e he hb => ?_⟩⟩
          have := (h.ok.edge h3 he hb).1
          exact hl _ (by omega)
      · exact .inr hr
  have all0 : unl listed = 0 → ∀ i, i < ops.size → Lst listed i := by
    intro h0 i hi
    by_cases hl : Lst listed i
    · exact hl
    · have := unl_set (by rw [h.size]; exact hi) hl
      omega
  cases fuel with
  | zero => exact .inl ⟨all0 (by omega), rfl⟩
  | succ fuel =>
    have hgo : Region.linearise.go .any ops (fuel + 1) tt listed [] = match (Region.ready .any ops listed)[tt % (Region.ready .any ops listed).length]? with
      | some i => Region.linearise.go .any ops fuel (tt / (Region.ready .any ops listed).length) (listed.setIfInBounds i true) [i]
      | none => [] := rfl
    cases hi : (Region.ready .any ops listed)[tt % (Region.ready .any ops listed).length]? with
    | none =>
      have hnil : Region.ready .any ops listed = [] := by
        cases hr : Region.ready .any ops listed with
        | nil => rfl
        | cons x xs =>
          rw [hr] at hi
          have hlt : tt % (x :: xs).length < (x :: xs).length := Nat.mod_lt _ (by simp)
          simp at hi
          simp at hlt
          omega
      rw [hgo, hi]
      refine .inl ⟨?_, rfl⟩
      rcases min ops.size (Nat.le_refl _) with h1 | ⟨i, h1⟩
      · exact h1
      · rw [hnil] at h1; cases h1
    | some i =>
      obtain ⟨o, ho, hn, hall⟩ := (mem_ready listed h.size i).1 (List.mem_of_getElem? hi)
      obtain ⟨x, h1, h2, h3, h4, h5⟩ := h.ok.get (i := i) (Array.getElem?_eq_some_iff.1 ho).1
      subst h4
      rw [ho] at h5
      injection h5 with h5
      subst h5
      refine .inr ⟨x, fuel, tt / (Region.ready .any ops listed).length, h3, hn, ?_, ?_, ?_⟩
      · intro j hj
        obtain ⟨e, he, hb, y, hy, hyi, hjj⟩ := h.ok.cover h3 hj
        have hl := hall e he hb
        rcases hjj with rfl | hjj
        · exact hl
        · exact h.clo y hy (hyi ▸ hl) j hjj
      · have := unl_set (i := x.i) (by rw [h.size]; exact (h.ok.mem h3).2.2.2) hn
        omega
      · rw [hgo, hi]
        simp only
        rw [linearise_go_acc, List.reverse_singleton, List.singleton_append]

/-! What an operation looks at. -/
theorem envA_get (t vals : Tr AV) : ∀ (srcs : List (Tmp × Nat)) (t : Tr AV) (u : Tmp) (v : AV), (envA t vals srcs).get u = some v → (∃ j, (u, j) ∈ srcs ∧ vals.get j = some v) ∨ ((∀ j, (u, j) ∉ srcs) ∧ t.get u = some v)
  | [], t, u, v, h => .inr ⟨fun j h => (by cases h), h⟩
  | s :: srcs, t, u, v, h => by
    have h' : (envA (t.set s.1 (vals.get s.2)) vals srcs).get u = some v := h
    rcases envA_get t vals srcs _ u v h' with ⟨j, h1, h2⟩ | ⟨h1, h2⟩
    · exact .inl ⟨j, List.mem_cons_of_mem _ h1, h2⟩
    · rw [get_set] at h2
      split at h2
      · rename_i e
        subst e
        exact .inl ⟨s.2, List.mem_cons_self, h2⟩
      · rename_i e
        refine .inr ⟨fun j hj => ?_, h2⟩
        rcases List.mem_cons.1 hj with hj | hj
        · apply e; rw [← hj]
        · exact h1 j hj

theorem DrC.env (h : DrC C E M m B nx ops pl p lp vals als t listed tm) {x : POp} (hx : x ∈ pl.l) (hb : ∀ j, x.bef.testBit j = true → Lst listed j) (hn : ¬ Lst listed x.i) {vals0 : Tr AV} (hle : Vle vals0 vals) :
    ∀ u ∈ looks ops.toList x.o, ∀ v, (envA t vals0 x.srcs).get u = some v → ∃ val, tm[u]? = some val ∧ RV E v val := by
  intro u hu v hv
  rcases envA_get t vals0 x.srcs t u v hv with ⟨j, h1, h2⟩ | ⟨h1, h2⟩
  · obtain ⟨h3, y, h4, h5, h6⟩ := h.ok.src hx h1
    simp only at h3 h5 h6
    obtain ⟨v', h7, h8⟩ := h.new y h4 (h5 ▸ hb _ h3)
    have := hle _ _ h2
    rw [← h5, h7] at this
    injection this with this
    subst this
    exact h8 u h6
  · refine h.old u v h2 fun y hy hd hl => ?_
    rcases h.ok.looked hx hy hu hd with ⟨_, h3⟩ | ⟨_, h3⟩
    · exact h1 _ h3
    · rcases h3 with rfl | h3
      · exact hn hl
      · exact hn (h.clo y hy hl _ h3)

theorem opTmps_mem {u : Tmp} : ∀ {l : List Operand}, .tmp u ∈ l → u ∈ opTmps l
  | .tmp t :: l, h => by
    simp only [opTmps]
    rcases List.mem_cons.1 h with h | h
    · injection h with h; subst h; exact List.mem_cons_self
    · exact List.mem_cons_of_mem _ (opTmps_mem h)
  | .const _ :: l, h => by
    simp only [opTmps]
    rcases List.mem_cons.1 h with h | h
    · cases h
    · exact opTmps_mem h
  | .global _ :: l, h => by
    simp only [opTmps]
    rcases List.mem_cons.1 h with h | h
    · cases h
    · exact opTmps_mem h
  | .func _ :: l, h => by
    simp only [opTmps]
    rcases List.mem_cons.1 h with h | h
    · cases h
    · exact opTmps_mem h

theorem looks_mem {l : List Oper} {o : Oper} {u : Tmp} (h : .tmp u ∈ o.op.operands) : u ∈ looks l o := by
  have h1 : u ∈ opTmps o.op.operands.toList := opTmps_mem (Array.mem_toList_iff.2 h)
  unfold looks
  split
  · split
    · split
      · exact List.mem_cons_of_mem _ h1
      · exact h1
    · exact h1
  · exact h1

theorem looks_guard {l : List Oper} {o x : Oper} {j : Nat} {b : Bool} {d : Tmp} (h : o.guard = some (j, b)) (hx : l[j]? = some x) (hd : x.dst = some d) : d ∈ looks l o := by
  unfold looks
  rw [h]
  simp only [hx, hd]
  exact List.mem_cons_self

theorem evo_look {G : Nat} {a : Act} (hg : E.gl G) {x : Operand} (h : ∀ u, x = .tmp u → ∀ v, t.get u = some v → ∃ val, a.tmps[u]? = some val ∧ RV E v val) : RV E (evo G t x) (a.eval x) := by
  cases x with
  | tmp i =>
    simp only [evo]
    cases hi : t.get i with
    | none => exact .top _
    | some v =>
      obtain ⟨u, hu, hv⟩ := h i rfl v hi
      simp only [Act.eval, Array.getD_eq_getD_getElem?, hu, Option.getD_some]
      exact hv
  | const v => exact rv_ofV E v
  | global g =>
    simp only [evo]
    split
    · rename_i h
      obtain ⟨x, hx⟩ := hg g (Nat.le_of_ble_eq_true h)
      exact .ptr g 0 _ hx
    · exact .top _
  | func f => exact .func f [] [] #[] #[] .nil .nil

theorem wantA_sound {o : Oper} {r : Bool} (h : wantA ops.toList t o.guard = some r)
    (hl : ∀ d j w x, o.guard = some (j, w) → ops.toList[j]? = some x → x.dst = some d → ∀ v, t.get d = some v → ∃ val, tm[d]? = some val ∧ RV E v val) : Region.wanted o (yielded ops tm) = r := by
  unfold wantA at h
  unfold Region.wanted
  split at h
  · rename_i hg
    rw [hg]
    injection h
  · rename_i j w hg
    rw [hg]
    simp only
    split at h
    · rename_i x hx
      have hx' : ops[j]? = some x := by rw [← Array.getElem?_toList]; exact hx
      split at h
      · rename_i d hd
        have hy : yielded ops tm j = match tm[d]? with | some (.bool b) => some b | _ => none := by
          unfold yielded
          rw [hx', Option.bind_some, hd, Option.bind_some]
          cases tm[d]? <;> rfl
        rw [hy]
        have look := hl d j w x hg hx hd
        split at h
        · rename_i ht
          obtain ⟨val, h1, h2⟩ := look _ ht
          obtain rfl := h2.bool_inv
          rw [h1]; injection h with h
        · rename_i ht
          obtain ⟨val, h1, h2⟩ := look _ ht
          obtain rfl := h2.bool_inv
          rw [h1]; injection h with h
        · rename_i ht
          obtain ⟨val, h1, h2⟩ := look _ ht
          obtain rfl := h2.bool_inv
          rw [h1]; injection h with h
        · rename_i ht
          obtain ⟨val, h1, h2⟩ := look _ ht
          obtain rfl := h2.bool_inv
          rw [h1]; injection h with h
        · rename_i ht
          obtain ⟨val, h1, h2⟩ := look _ ht
          obtain ⟨ws, hw, rfl⟩ := h2.tup_inv
          rw [h1]; injection h with h
        · cases h
      · rename_i hd
        have hy : yielded ops tm j = none := by
          unfold yielded
          rw [hx', Option.bind_some, hd, Option.bind_none]
        rw [hy]; injection h with h
    · rename_i hx
      have hx' : ops[j]? = none := by rw [← Array.getElem?_toList]; exact hx
      have hy : yielded ops tm j = none := by
        unfold yielded
        rw [hx', Option.bind_none, Option.bind_none]
      rw [hy]; injection h with h
end
end Go.Ev
namespace Go.Ev
set_option linter.unusedVariables false
set_option linter.unusedSimpArgs false

theorem nodup_inj {α β : Type} (f : α → β) : ∀ {l : List α}, (l.map f).Nodup → ∀ {a b : α}, a ∈ l → b ∈ l → f a = f b → a = b
  | [], _, a, b, ha, _, _ => (by cases ha)
  | x :: l, h, a, b, ha, hb, he => by
    rw [List.map_cons, List.nodup_cons] at h
    rcases List.mem_cons.1 ha with h1 | ha <;> rcases List.mem_cons.1 hb with h2 | hb
    · rw [h1, h2]
    · exact absurd (List.mem_map.2 ⟨b, hb, by rw [← he, h1]⟩) h.1
    · exact absurd (List.mem_map.2 ⟨a, ha, by rw [he, h2]⟩) h.1
    · exact nodup_inj f h.2 ha hb he

theorem put_size (a : Act) (dst : Option Tmp) (v : Value) : (a.put dst v).tmps.size = a.tmps.size := by
  cases dst <;> simp [Act.put]
theorem put_ne (a : Act) {dst : Option Tmp} (v : Value) {d : Tmp} (h : dst ≠ some d) : (a.put dst v).tmps[d]? = a.tmps[d]? := by
  cases dst with
  | none => rfl
  | some e =>
    simp only [Act.put]
    exact Array.getElem?_setIfInBounds_ne (fun he => h (by rw [he]))
theorem put_eq (a : Act) {d : Tmp} (v : Value) (h : d < a.tmps.size) : (a.put (some d) v).tmps[d]? = some v := by
  simp only [Act.put]
  rw [Array.getElem?_setIfInBounds]
  simp [h]
theorem put_defs (a : Act) (dst : Option Tmp) (v : Value) : (a.put dst v).defers = a.defers := by
  cases dst <;> rfl

section
variable {C : Ctx} {E : Em} {M : Nat → Option AObj} {m : Tr AObj} {B nx : Nat} {ops : Array Oper} {pl : Plan} {p lp : Nat} {vals : Tr AV} {als : List (Nat × Nat × AObj)} {t : Tr AV} {listed : Array Bool}

/-- One that is no effect has been done. -/
theorem DrC.one {a : Act} {E' : Em} {M' : Nat → Option AObj} (h : DrC C E M m B nx ops pl p lp vals als t listed a.tmps) {x : POp} (hx : x ∈ pl.l) (hb : ∀ j, x.bef.testBit j = true → Lst listed j) (hn : ¬ Lst listed x.i) (hk : x.kd ≠ 2)
    {v : AV} {v' : Value} (hv : vals.get x.i = some v) (hr : RV E' v v') (hle : E.le E') (hM : ∀ b o, M b = some o → M' b = some o) (hE : ∀ a ∈ als, a.1 ≠ x.i → E'.loc a.2.1 = E.loc a.2.1)
    (hal : ∀ a ∈ als, a.1 = x.i → M' a.2.1 = some a.2.2) : DrC C E' M' m B nx ops pl p lp vals als t (listed.setIfInBounds x.i true) (a.put x.o.dst v').tmps := by
  have hlt : x.i < listed.size := by rw [h.size]; exact (h.ok.mem hx).2.2.2
  have self : Lst (listed.setIfInBounds x.i true) x.i := (Lst_set _ _ _).2 (.inr ⟨rfl, hlt⟩)
  have inv : ∀ y ∈ pl.l, Lst (listed.setIfInBounds x.i true) y.i → Lst listed y.i ∨ y = x := fun y hy hl => by
    rcases (Lst_set _ _ _).1 hl with h1 | ⟨h1, _⟩
    · exact .inl h1
    · exact .inr (h.ok.same hy hx h1.symm)
  have inc : ∀ j, Lst listed j → Lst (listed.setIfInBounds x.i true) j := fun j hl => (Lst_set _ _ _).2 (.inl hl)
  refine ⟨h.ok, by simpa using h.size, ?_, ?_, h.ple, ?_, ?_, ?_, ?_, h.alu, h.ali, ?_⟩
  · intro y hy hl j hj
    rcases inv y hy hl with h1 | rfl
    · exact inc j (h.clo y hy h1 j hj)
    · exact inc j (hb j hj)
  · intro q e he
    have hem := h.ok.eff.1 (List.mem_of_getElem? he)
    rw [← h.eff q e he]
    constructor
    · intro hl
      rcases inv e hem.1 hl with h1 | rfl
      · exact h1
      · exact absurd hem.2 hk
    · exact inc _
  · intro y hy d hd
    rw [put_size]; exact h.bnd y hy d hd
  · intro y hy hl
    by_cases hyx : y = x
    · subst hyx
      refine ⟨v, hv, fun d hd => ⟨v', ?_, hr⟩⟩
      rw [hd]
      exact put_eq a v' (h.bnd y hy d hd)
    · rcases inv y hy hl with h1 | h1
      · obtain ⟨u, h2, h3⟩ := h.new y hy h1
        refine ⟨u, h2, fun d hd => ?_⟩
        obtain ⟨z, h4, h5⟩ := h3 d hd
        refine ⟨z, ?_, h5.mono hle⟩
        rw [put_ne a v' (fun he => hyx (h.ok.one hy hx hd he))]
        exact h4
      · exact absurd h1 hyx
  · intro d u hd hno
    obtain ⟨z, h4, h5⟩ := h.old d u hd (fun y hy hyd hl => hno y hy hyd (inc _ hl))
    refine ⟨z, ?_, h5.mono hle⟩
    rw [put_ne a v' (fun he => hno x hx he self)]
    exact h4
  · intro b hbm
    obtain ⟨h1, h2, h3, h4, h5⟩ := h.al b hbm
    refine ⟨h1, h2, h3, ?_, ?_⟩
    · intro hl
      rcases (Lst_set _ _ _).1 hl with h6 | ⟨h6, _⟩
      · exact hM _ _ (h4 h6)
      · exact hal b hbm h6.symm
    · intro hl
      rw [hE b hbm (fun he => hl (he ▸ self))]
      exact h5 fun h6 => hl (inc _ h6)
  · intro y hy hk1 hlo hhi hl
    exact h.alc y hy hk1 hlo hhi fun h6 => hl (inc _ h6)

/-- Where one that may be done now stands. -/
theorem DrC.window {tm : Array Value} (h : DrC C E M m B nx ops pl p lp vals als t listed tm) {x : POp} (hx : x ∈ pl.l) (hb : ∀ j, x.bef.testBit j = true → Lst listed j) (hn : ¬ Lst listed x.i) : x.lo ≤ p ∧ p ≤ x.hi := by
  constructor
  · rcases Nat.lt_or_ge p x.lo with hlt | hge
    · obtain ⟨e, he, hbe⟩ := h.ok.lo hx hlt
      have := (h.eff p e he).1 (hb _ hbe)
      omega
    · exact hge
  · refine h.ok.hi hx h.ple fun q e hq he => ?_
    cases hbe : e.bef.testBit x.i with
    | false => rfl
    | true => exact absurd (h.clo e (h.ok.eff.1 (List.mem_of_getElem? he)).1 ((h.eff q e he).2 hq) _ hbe) hn

theorem DrC.opers {a : Act} (hg : E.gl C.G) (h : DrC C E M m B nx ops pl p lp vals als t listed a.tmps) {x : POp} (hx : x ∈ pl.l) (hb : ∀ j, x.bef.testBit j = true → Lst listed j) (hn : ¬ Lst listed x.i) {vals0 : Tr AV} (hle : Vle vals0 vals) :
    ∀ y ∈ x.o.op.operands, RV E (evo C.G (envA t vals0 x.srcs) y) (a.eval y) := by
  intro y hy
  refine evo_look hg fun u hu v hv => ?_
  subst hu
  exact h.env hx hb hn hle u (looks_mem hy) v hv

theorem DrC.want {a : Act} (h : DrC C E M m B nx ops pl p lp vals als t listed a.tmps) {x : POp} (hx : x ∈ pl.l) (hb : ∀ j, x.bef.testBit j = true → Lst listed j) (hn : ¬ Lst listed x.i) {vals0 : Tr AV} (hle : Vle vals0 vals) {r : Bool}
    (hw : wantA ops.toList (envA t vals0 x.srcs) x.o.guard = some r) : Region.wanted x.o (yielded ops a.tmps) = r := by
  refine wantA_sound (E := E) hw fun d j w z hg hz hd v hv => ?_
  exact h.env hx hb hn hle d (looks_guard hg hz hd) v hv

theorem qop_nodefer {G : Nat} {T : Tr TI} {o : Op} {v : AV} (h : qop G T t m o = some v) : ∀ c, o ≠ .defer c := by
  intro c hc; subst hc; cases h
theorem aop_nodefer {G : Nat} {T : Tr TI} {id : Nat} {o : Op} {r : AV × AObj} (h : aop G T t id o = some r) : ∀ c, o ≠ .defer c := by
  intro c hc; subst hc; cases h

/-- A read, or a number. -/
theorem dr_quiet {P : Program} {W0 : World} {Q : Nat → Prop} {w : World} {b : Frame} {a : Act} {rest : List Nat} {k : List Item} {ccs : List Frame} (hP : PrOk P C) (hs : HS C.G C.V W0 Q E M m nx w)
    (h : DrC C E M m B nx ops pl p lp vals als t listed a.tmps) (hq : DrQ C m ops pl p vals t) {x : POp} (hx : x ∈ pl.l) (hb : ∀ j, x.bef.testBit j = true → Lst listed j) (hn : ¬ Lst listed x.i) (h1 : x.kd ≠ 1) (h2 : x.kd ≠ 2) :
    ∃ v', step P (lone (b.atR a (.inRegion ops (x.i :: rest) :: k)) ccs w) = .next (lone (b.atR (a.put x.o.dst v') (.inRegion ops rest :: k)) ccs w) ∧
      DrC C E M m B nx ops pl p lp vals als t (listed.setIfInBounds x.i true) (a.put x.o.dst v').tmps := by
  obtain ⟨hlo, hhi⟩ := h.window hx hb hn
  obtain ⟨v, hv, vals0, hle, hc⟩ := hq x hx h1 h2 hlo hhi
  have ho := (h.ok.mem hx).2.2.1
  have fin : ∀ v', RV E v v' → DrC C E M m B nx ops pl p lp vals als t (listed.setIfInBounds x.i true) (a.put x.o.dst v').tmps := fun v' hr =>
    h.one hx hb hn h2 hv hr E.le_refl (fun _ _ e => e) (fun _ _ _ => rfl) fun y hy he => by
      obtain ⟨_, _, ⟨z, q1, q2, q3, _⟩, _⟩ := h.al y hy
      have := h.ok.same q1 hx (q2.trans he)
      subst this
      exact absurd q3 h1
  unfold certQ at hc
  split at hc
  · rename_i hw
    have hw' := h.want hx hb hn hle hw
    obtain ⟨v', h3, h4⟩ := qopX_sound hP.tys hs.rhm hc (h.opers hs.gl hx hb hn hle)
    exact ⟨v', stepR_value ho hw' (qopX_nodefer hc) h3, fin v' h4⟩
  · rename_i hw
    have hw' := h.want hx hb hn hle hw
    injection hc with hc
    subst hc
    exact ⟨undef, stepR_unwanted ho hw', fin undef (undef_rv E)⟩
  · cases hc

/-- Something is made. -/
theorem dr_alloc {P : Program} {W0 : World} {Q : Nat → Prop} {w : World} {b : Frame} {a : Act} {rest : List Nat} {k : List Item} {ccs : List Frame} (hP : PrOk P C) (hs : HS C.G C.V W0 Q E M m nx w)
    (h : DrC C E M m B nx ops pl p (p + 1) vals als t listed a.tmps) {x : POp} (hx : x ∈ pl.l) (hb : ∀ j, x.bef.testBit j = true → Lst listed j) (hn : ¬ Lst listed x.i) (h1 : x.kd = 1) :
    ∃ E' M' v' w', step P (lone (b.atR a (.inRegion ops (x.i :: rest) :: k)) ccs w) = .next (lone (b.atR (a.put x.o.dst v') (.inRegion ops rest :: k)) ccs w') ∧
      HS C.G C.V W0 Q E' M' m nx w' ∧ Later B E M m E' M' m ∧ (∀ b o, M b = some o → M' b = some o) ∧ DrC C E' M' m B nx ops pl p (p + 1) vals als t (listed.setIfInBounds x.i true) (a.put x.o.dst v').tmps := by
  obtain ⟨hlo, hhi⟩ := h.window hx hb hn
  obtain ⟨v, hv, vals0, hle, hc⟩ := h.alc x hx h1 (by omega) hhi hn
  have ho := (h.ok.mem hx).2.2.1
  have h2 : x.kd ≠ 2 := by omega
  -- not wanted
  have idle : wantA ops.toList (envA t vals0 x.srcs) x.o.guard = some false → v = .tup [] → (∀ y ∈ als, y.1 ≠ x.i) →
      ∃ E' M' v' w', step P (lone (b.atR a (.inRegion ops (x.i :: rest) :: k)) ccs w) = .next (lone (b.atR (a.put x.o.dst v') (.inRegion ops rest :: k)) ccs w') ∧
      HS C.G C.V W0 Q E' M' m nx w' ∧ Later B E M m E' M' m ∧ (∀ b o, M b = some o → M' b = some o) ∧ DrC C E' M' m B nx ops pl p (p + 1) vals als t (listed.setIfInBounds x.i true) (a.put x.o.dst v').tmps := by
    intro hw hvv hno
    subst hvv
    exact ⟨E, M, undef, w, stepR_unwanted ho (h.want hx hb hn hle hw), hs, Later.refl _ _ _ _, fun _ _ e => e,
      h.one hx hb hn h2 hv (undef_rv E) E.le_refl (fun _ _ e => e) (fun _ _ _ => rfl) fun y hy he => absurd he (hno y hy)⟩
  rcases hc with ⟨id, ob, hmem, hc⟩ | ⟨⟨id, hc⟩, hno⟩
  · unfold certA at hc
    split at hc
    · rename_i hw
      rw [aopF_eq] at hc
      split at hc
      · rename_i v1 ob1 ha
        injection hc with hc
        injection hc with e1 e2
        injection e2 with e2
        subst e1 e2
        obtain ⟨q1, q2, q3, q4, q5⟩ := h.al _ hmem
        have hf : E.loc id = none := q5 hn
        obtain ⟨xt, obj, v', w', k1, k2, k3, k4, k5⟩ := aop_sound (w := w) hP.tys ha hf (h.opers hs.gl hx hb hn hle)
        have hne : ∀ i o, M i = some o → i ≠ id := fun i o hi e => by
          obtain ⟨l, hl, _⟩ := (hs.rh.obj i o hi).loc
          rw [e, hf] at hl; cases hl
        have hMM : ∀ i o, M i = some o → (fun i => if i = id then some ob1 else M i) i = some o := fun i o hi => by
          simp only [if_neg (hne i o hi)]; exact hi
        have hleE : E.le (E.add id ⟨w.heap.size, 0, xt⟩) := Em.le_add hf
        refine ⟨E.add id ⟨w.heap.size, 0, xt⟩, fun i => if i = id then some ob1 else M i, v', w', stepR_value ho (h.want hx hb hn hle hw) (aop_nodefer ha) k1, ?_, ?_, hMM, ?_⟩
        · have hwr := aop_wr ha
          refine ⟨RH.alloc hs.rh hf k2 k5, fun i o hi => hMM i o (hs.sub i o hi), ?_, Em.gl_mono hs.gl hleE, hleE.2.trans hs.vl, ?_, ?_, hs.hq, ?_, k3.1.trans hs.os, k3.2.1.trans hs.tape, k3.2.2.trans hs.out⟩
          · intro i hi
            have q22 : id < nx := q2.2
            have : i ≠ id := by omega
            exact ⟨by show (if i = id then _ else E.loc i) = none; rw [if_neg this]; exact (hs.fr i hi).1, (hs.fr i hi).2⟩
          · intro i hi
            rw [← hs.old i hi, k2, Array.getElem?_push, if_neg]
            have := hs.hq i hi
            have := hs.size
            omega
          · intro i o l hi ho' hl
            by_cases e : i = id
            · subst e
              rw [Em.loc_add] at hl
              injection hl with hl
              subst hl
              intro hq
              have q1 : w.heap.size < W0.heap.size := hs.hq _ hq
              have := hs.size
              omega
            · simp only [if_neg e] at hi
              have : E.loc i = some l := by
                have hh : (if i = id then some ⟨w.heap.size, 0, xt⟩ else E.loc i) = some l := hl
                rw [if_neg e] at hh; exact hh
              exact hs.lim i o l hi ho' this
          · rw [k2, Array.size_push]
            have := hs.size
            omega
        · refine ⟨hleE, fun i hi => ?_, fun _ _ e => e, fun i o hi _ => hMM i o hi⟩
          show (if i = id then _ else E.loc i) = E.loc i
          have q21 : B ≤ id := q2.1
          rw [if_neg (by omega)]
        · refine h.one hx hb hn h2 hv k4 hleE hMM (fun y hy he => ?_) fun y hy he => ?_
          · show (if y.2.1 = id then _ else E.loc y.2.1) = E.loc y.2.1
            rw [if_neg]
            intro hid
            have := nodup_inj (·.2.1) h.alu hy hmem hid
            subst this
            exact he rfl
          · have := nodup_inj (·.1) h.ali hy hmem he
            subst this
            exact if_pos rfl
      · cases hc
    · injection hc with hc
      injection hc with e1 e2
      cases e2
    · cases hc
  · unfold certA at hc
    split at hc
    · rename_i hw
      split at hc
      · injection hc with hc
        injection hc with e1 e2
        cases e2
      · cases hc
    · rename_i hw
      injection hc with hc
      injection hc with e1 e2
      exact idle hw e1.symm hno
    · cases hc
end
end Go.Ev
namespace Go.Ev
set_option linter.unusedVariables false
set_option linter.unusedSimpArgs false

theorem Later.same {L : Nat} {E E' E'' : Em} {M M' M'' : Nat → Option AObj} {m : Tr AObj} (h : Later L E M m E' M' m) (k : Later L E' M' m E'' M'' m) : Later L E M m E'' M'' m :=
  ⟨Em.le_trans h.le k.le, fun b hb => (k.loc b hb).trans (h.loc b hb), fun _ _ e => e, fun b o hb h0 => k.keep b o (h.keep b o hb h0) h0⟩

section
variable {C : Ctx} {E : Em} {M : Nat → Option AObj} {m : Tr AObj} {B nx : Nat} {ops : Array Oper} {pl : Plan} {p lp : Nat} {vals : Tr AV} {als : List (Nat × Nat × AObj)} {t : Tr AV} {listed : Array Bool}

/-- Up to the next effect, or the end. -/
theorem dr_adv {P : Program} {W0 : World} {Q : Nat → Prop} {b : Frame} {k : List Item} {ccs : List Frame} (hP : PrOk P C) : ∀ (n : Nat) {E : Em} {M : Nat → Option AObj} {w : World} {a : Act} {listed : Array Bool} {fuel tt : Nat},
    unl listed ≤ n → HS C.G C.V W0 Q E M m nx w → DrC C E M m B nx ops pl p (p + 1) vals als t listed a.tmps → DrQ C m ops pl p vals t → unl listed ≤ fuel →
    ∃ E' M' w' a' listed', HS C.G C.V W0 Q E' M' m nx w' ∧ Later B E M m E' M' m ∧ (∀ b o, M b = some o → M' b = some o) ∧ DrC C E' M' m B nx ops pl p (p + 1) vals als t listed' a'.tmps ∧ a'.defers = a.defers ∧ a'.tmps.size = a.tmps.size ∧
      ((pl.effs[p]? = none ∧ (∀ i, i < ops.size → Lst listed' i) ∧ Steps P (lone (b.atR a (.inRegion ops (Region.linearise.go .any ops fuel tt listed []) :: k)) ccs w) (lone (b.atR a' (.inRegion ops [] :: k)) ccs w')) ∨
       ∃ e fuel' tt', pl.effs[p]? = some e ∧ (∀ j, e.bef.testBit j = true → Lst listed' j) ∧ unl (listed'.setIfInBounds e.i true) ≤ fuel' ∧
        Steps P (lone (b.atR a (.inRegion ops (Region.linearise.go .any ops fuel tt listed []) :: k)) ccs w)
          (lone (b.atR a' (.inRegion ops (e.i :: Region.linearise.go .any ops fuel' tt' (listed'.setIfInBounds e.i true) []) :: k)) ccs w')) := by
  intro n
  induction n with
  | zero =>
    intro E M w a listed fuel tt hn hs h hq hf
    rcases h.next hf (tt := tt) with ⟨hall, hgo⟩ | ⟨x, fuel', tt', hx, hnl, _⟩
    · refine ⟨E, M, w, a, listed, hs, Later.refl _ _ _ _, fun _ _ e => e, h, rfl, rfl, .inl ⟨?_, hall, by rw [hgo]; exact .refl _ _⟩⟩
      cases he : pl.effs[p]? with
      | none => rfl
      | some e =>
        have := (h.eff p e he).1 (hall _ (h.ok.mem (h.ok.eff.1 (List.mem_of_getElem? he)).1).2.2.2)
        omega
    · have := unl_set (i := x.i) (by rw [h.size]; exact (h.ok.mem hx).2.2.2) hnl
      omega
  | succ n ih =>
    intro E M w a listed fuel tt hn hs h hq hf
    rcases h.next hf (tt := tt) with ⟨hall, hgo⟩ | ⟨x, fuel', tt', hx, hnl, hb, hfu, hgo⟩
    · refine ⟨E, M, w, a, listed, hs, Later.refl _ _ _ _, fun _ _ e => e, h, rfl, rfl, .inl ⟨?_, hall, by rw [hgo]; exact .refl _ _⟩⟩
      cases he : pl.effs[p]? with
      | none => rfl
      | some e =>
        have := (h.eff p e he).1 (hall _ (h.ok.mem (h.ok.eff.1 (List.mem_of_getElem? he)).1).2.2.2)
        omega
    · have hu := unl_set (i := x.i) (by rw [h.size]; exact (h.ok.mem hx).2.2.2) hnl
      rw [hgo]
      by_cases hk2 : x.kd = 2
      · -- the effect
        obtain ⟨q, hq'⟩ := List.getElem?_of_mem (h.ok.eff.2 ⟨hx, hk2⟩)
        have hqp : ¬ q < p := fun hlt => hnl ((h.eff q x hq').2 hlt)
        have : q = p := by
          rcases Nat.lt_or_ge p q with hlt | hge
          · have hpl : p < pl.effs.length := by
              have := (List.getElem?_eq_some_iff.1 hq').1
              omega
            have hc := h.ok.chained p q _ x (List.getElem?_eq_getElem hpl) hq' hlt
            have := (h.eff p _ (List.getElem?_eq_getElem hpl)).1 (hb _ hc)
            omega
          · omega
        subst this
        exact ⟨E, M, w, a, listed, hs, Later.refl _ _ _ _, fun _ _ e => e, h, rfl, rfl, .inr ⟨x, fuel', tt', hq', hb, hfu, .refl _ _⟩⟩
      · by_cases hk1 : x.kd = 1
        · obtain ⟨E1, M1, v1, w1, s1, h1, h2, h3, h4⟩ := dr_alloc (b := b) (rest := Region.linearise.go .any ops fuel' tt' (listed.setIfInBounds x.i true) []) (k := k) (ccs := ccs) hP hs h hx hb hnl hk1
          obtain ⟨E2, M2, w2, a2, l2, g1, g2, g3, g4, g5, g6, g7⟩ := ih (tt := tt') (by omega) h1 h4 hq hfu
          refine ⟨E2, M2, w2, a2, l2, g1, h2.same g2, fun i o hi => g3 i o (h3 i o hi), g4, by rw [g5, put_defs], by rw [g6, put_size], ?_⟩
          rcases g7 with ⟨q1, q2, q3⟩ | ⟨e, f3, t3, q1, q2, q3, q4⟩
          · exact .inl ⟨q1, q2, .head s1 q3⟩
          · exact .inr ⟨e, f3, t3, q1, q2, q3, .head s1 q4⟩
        · obtain ⟨v1, s1, h4⟩ := dr_quiet (b := b) (rest := Region.linearise.go .any ops fuel' tt' (listed.setIfInBounds x.i true) []) (k := k) (ccs := ccs) hP hs h hq hx hb hnl hk1 hk2
          obtain ⟨E2, M2, w2, a2, l2, g1, g2, g3, g4, g5, g6, g7⟩ := ih (tt := tt') (by omega) hs h4 hq hfu
          refine ⟨E2, M2, w2, a2, l2, g1, g2, g3, g4, by rw [g5, put_defs], by rw [g6, put_size], ?_⟩
          rcases g7 with ⟨q1, q2, q3⟩ | ⟨e, f3, t3, q1, q2, q3, q4⟩
          · exact .inl ⟨q1, q2, .head s1 q3⟩
          · exact .inr ⟨e, f3, t3, q1, q2, q3, .head s1 q4⟩

/-! What was made goes into the heap. -/
theorem mergeA_cons (bef : Nat) (all : Bool) (a : Nat × Nat × AObj) (als : List (Nat × Nat × AObj)) (m : Tr AObj) :
    mergeA bef all (a :: als) m = match all || bef.testBit a.1 with
    | true => ((mergeA bef all als m).1.set a.2.1 (some a.2.2), (mergeA bef all als m).2)
    | false => ((mergeA bef all als m).1, a :: (mergeA bef all als m).2) := rfl

structure Merged (c : Nat → Bool) (als : List (Nat × Nat × AObj)) (m m1 : Tr AObj) (als1 : List (Nat × Nat × AObj)) : Prop where
  sub : als1.Sublist als
  left : ∀ a ∈ als, c a.1 = false → a ∈ als1
  right : ∀ a ∈ als1, c a.1 = false
  from_ : ∀ b o, m1.get b = some o → m.get b = some o ∨ ∃ a ∈ als, c a.1 = true ∧ a.2.1 = b ∧ a.2.2 = o
  keep : ∀ b, (∀ a ∈ als, c a.1 = true → a.2.1 ≠ b) → m1.get b = m.get b
  to : (als.map (·.2.1)).Nodup → ∀ a ∈ als, c a.1 = true → m1.get a.2.1 = some a.2.2

theorem merged (bef : Nat) (all : Bool) (m : Tr AObj) : ∀ als : List (Nat × Nat × AObj), Merged (fun i => all || bef.testBit i) als m (mergeA bef all als m).1 (mergeA bef all als m).2 := by
  intro als
  induction als with
  | nil =>
    exact ⟨List.Sublist.refl _, fun a h => (by cases h), fun a h => (by cases h), fun b o h => .inl h, fun b _ => rfl, fun _ a h => (by cases h)⟩
  | cons a als ih =>
    rw [mergeA_cons]
    split
    · rename_i hc
      refine ⟨ih.sub.cons a, ?_, ih.right, ?_, ?_, ?_⟩
      · intro x hx hcx
        rcases List.mem_cons.1 hx with rfl | hx
        · rw [hc] at hcx; cases hcx
        · exact ih.left x hx hcx
      · intro b o hb
        simp only [get_set] at hb
        split at hb
        · rename_i e
          injection hb with hb
          exact .inr ⟨a, List.mem_cons_self, hc, e.symm, hb⟩
        · rcases ih.from_ b o hb with h | ⟨x, h1, h2⟩
          · exact .inl h
          · exact .inr ⟨x, List.mem_cons_of_mem _ h1, h2⟩
      · intro b hb
        simp only [get_set]
        rw [if_neg (fun e => hb a List.mem_cons_self hc e.symm)]
        exact ih.keep b fun x hx => hb x (List.mem_cons_of_mem _ hx)
      · intro hnd x hx hcx
        rw [List.map_cons, List.nodup_cons] at hnd
        simp only [get_set]
        rcases List.mem_cons.1 hx with rfl | hx
        · rw [if_pos rfl]
        · rw [if_neg]
          · exact ih.to hnd.2 x hx hcx
          · intro e
            exact hnd.1 (List.mem_map.2 ⟨x, hx, e⟩)
    · rename_i hc
      refine ⟨ih.sub.cons_cons a, ?_, ?_, ?_, ?_, ?_⟩
      · intro x hx hcx
        rcases List.mem_cons.1 hx with rfl | hx
        · exact List.mem_cons_self
        · exact List.mem_cons_of_mem _ (ih.left x hx hcx)
      · intro x hx
        rcases List.mem_cons.1 hx with rfl | hx
        · exact hc
        · exact ih.right x hx
      · intro b o hb
        rcases ih.from_ b o hb with h | ⟨x, h1, h2⟩
        · exact .inl h
        · exact .inr ⟨x, List.mem_cons_of_mem _ h1, h2⟩
      · intro b hb
        exact ih.keep b fun x hx => hb x (List.mem_cons_of_mem _ hx)
      · intro hnd x hx hcx
        rw [List.map_cons, List.nodup_cons] at hnd
        rcases List.mem_cons.1 hx with rfl | hx
        · rw [hc] at hcx; cases hcx
        · exact ih.to hnd.2 x hx hcx

/-- A heap with what was made. -/
theorem HS.merge {W0 : World} {Q : Nat → Prop} {w : World} {tm : Array Value} {c : Nat → Bool} {m1 : Tr AObj} {als1 : List (Nat × Nat × AObj)} (hs : HS C.G C.V W0 Q E M m nx w) (h : DrC C E M m B nx ops pl p lp vals als t listed tm)
    (hm : Merged c als m m1 als1) (hc : ∀ a ∈ als, c a.1 = true → Lst listed a.1) : HS C.G C.V W0 Q E M m1 nx w ∧ Later B E M m E M m1 := by
  refine ⟨{ hs with sub := ?_ }, E.le_refl, fun _ _ => rfl, ?_, fun _ _ e _ => e⟩
  · intro b o hb
    rcases hm.from_ b o hb with h1 | ⟨a, h1, h2, h3, h4⟩
    · exact hs.sub b o h1
    · subst h3 h4
      exact (h.al a h1).2.2.2.1 (hc a h1 h2)
  · intro b hb h0
    rw [hm.keep b, h0]
    intro a ha _ e
    have := (h.al a ha).2.1.1
    omega

theorem DrC.merge {tm : Array Value} {c : Nat → Bool} {m1 : Tr AObj} {als1 : List (Nat × Nat × AObj)} (h : DrC C E M m B nx ops pl p lp vals als t listed tm)
    (hm : Merged c als m m1 als1) (hc : ∀ a ∈ als, c a.1 = true → Lst listed a.1) : DrC C E M m1 B nx ops pl p lp vals als1 t listed tm := by
  refine { h with al := ?_, alu := (hm.sub.map _).nodup h.alu, ali := (hm.sub.map _).nodup h.ali, alc := ?_ }
  · intro a ha
    have ha' := hm.sub.subset ha
    obtain ⟨h1, h2⟩ := h.al a ha'
    refine ⟨?_, h2⟩
    rw [hm.keep, h1]
    intro x hx hcx e
    have := nodup_inj (·.2.1) h.alu hx ha' e
    subst this
    rw [hm.right x ha] at hcx
    cases hcx
  · intro x hx hk hlo hhi hl
    obtain ⟨v, h1, vals0, h2, h3⟩ := h.alc x hx hk hlo hhi hl
    refine ⟨v, h1, vals0, h2, h3.imp (fun ⟨id, ob, h4, h5⟩ => ⟨id, ob, hm.left _ h4 ?_, h5⟩) fun ⟨h4, h5⟩ => ⟨h4, fun a ha => h5 a (hm.sub.subset ha)⟩⟩
    cases hcx : c x.i with
    | false => rfl
    | true => exact absurd (hc _ h4 hcx) hl

/-- The effect has been done. -/
theorem DrC.effect {a : Act} (h : DrC C E M m B nx ops pl p lp vals als t listed a.tmps) {e : POp} (he : pl.effs[p]? = some e) (hb : ∀ j, e.bef.testBit j = true → Lst listed j) {v : AV} {v' : Value} (hv : vals.get e.i = none) (hr : RV E v v')
    (hlp : lp = p + 1) : DrC C E M m B nx ops pl (p + 1) (p + 1) (vals.set e.i (some v)) als t (listed.setIfInBounds e.i true) (a.put e.o.dst v').tmps := by
  subst hlp
  have hem := h.ok.eff.1 (List.mem_of_getElem? he)
  have hx := hem.1
  have hn : ¬ Lst listed e.i := fun hl => by have := (h.eff p e he).1 hl; omega
  have hlt : e.i < listed.size := by rw [h.size]; exact (h.ok.mem hx).2.2.2
  have self : Lst (listed.setIfInBounds e.i true) e.i := (Lst_set _ _ _).2 (.inr ⟨rfl, hlt⟩)
  have inv : ∀ y ∈ pl.l, Lst (listed.setIfInBounds e.i true) y.i → Lst listed y.i ∨ y = e := fun y hy hl => by
    rcases (Lst_set _ _ _).1 hl with h1 | ⟨h1, _⟩
    · exact .inl h1
    · exact .inr (h.ok.same hy hx h1.symm)
  have inc : ∀ j, Lst listed j → Lst (listed.setIfInBounds e.i true) j := fun j hl => (Lst_set _ _ _).2 (.inl hl)
  have hle : Vle vals (vals.set e.i (some v)) := Vle.set hv
  have hpl : p < pl.effs.length := (List.getElem?_eq_some_iff.1 he).1
  refine ⟨h.ok, by simpa using h.size, ?_, ?_, by omega, ?_, ?_, ?_, ?_, h.alu, h.ali, ?_⟩
  · intro y hy hl j hj
    rcases inv y hy hl with h1 | rfl
    · exact inc j (h.clo y hy h1 j hj)
    · exact inc j (hb j hj)
  · intro q z hz
    have hzm := h.ok.eff.1 (List.mem_of_getElem? hz)
    constructor
    · intro hl
      rcases inv z hzm.1 hl with h1 | rfl
      · have := (h.eff q z hz).1 h1; omega
      · rcases Nat.lt_or_ge p q with h1 | h1
        · have := (h.ok.bel hx (h.ok.chained p q z z he hz h1)).1
          omega
        · omega
    · intro hq
      rcases Nat.lt_or_ge q p with h1 | h1
      · exact inc _ ((h.eff q z hz).2 h1)
      · have : q = p := by omega
        subst this
        rw [he] at hz
        injection hz with hz
        subst hz
        exact self
  · intro y hy d hd
    rw [put_size]; exact h.bnd y hy d hd
  · intro y hy hl
    by_cases hyx : y = e
    · subst hyx
      refine ⟨v, by rw [get_set, if_pos rfl], fun d hd => ⟨v', ?_, hr⟩⟩
      rw [hd]
      exact put_eq a v' (h.bnd y hy d hd)
    · rcases inv y hy hl with h1 | h1
      · obtain ⟨u, h2, h3⟩ := h.new y hy h1
        refine ⟨u, hle _ _ h2, fun d hd => ?_⟩
        obtain ⟨z, h4, h5⟩ := h3 d hd
        refine ⟨z, ?_, h5⟩
        rw [put_ne a v' (fun hh => hyx (h.ok.one hy hx hd hh))]
        exact h4
      · exact absurd h1 hyx
  · intro d u hd hno
    obtain ⟨z, h4, h5⟩ := h.old d u hd (fun y hy hyd hl => hno y hy hyd (inc _ hl))
    refine ⟨z, ?_, h5⟩
    rw [put_ne a v' (fun hh => hno e hx hh self)]
    exact h4
  · intro z hz
    obtain ⟨h1, h2, ⟨x, h3, h4, h5, u, h6⟩, h7, h8⟩ := h.al z hz
    refine ⟨h1, h2, ⟨x, h3, h4, h5, u, hle _ _ h6⟩, ?_, fun hl => h8 fun h9 => hl (inc _ h9)⟩
    intro hl
    rcases (Lst_set _ _ _).1 hl with h9 | ⟨h9, _⟩
    · exact h7 h9
    · have := h.ok.same hx h3 (h9.trans h4.symm)
      subst this
      have := hem.2
      omega
  · intro y hy hk1 hlo hhi hl
    obtain ⟨u, h1, vals0, h2, h3⟩ := h.alc y hy hk1 hlo (by omega) fun h6 => hl (inc _ h6)
    exact ⟨u, hle _ _ h1, vals0, h2.trans hle, h3⟩

/-- All has been done. -/
theorem endT_spec (vals : Tr AV) (nt : Nat) : ∀ (l : List POp) (t t' : Tr AV), endT vals nt l t = some t' → (∀ x ∈ l, ∀ y ∈ l, ∀ d, x.o.dst = some d → y.o.dst = some d → x = y) →
    ∀ d v, t'.get d = some v → (∃ x ∈ l, x.o.dst = some d ∧ vals.get x.i = some v) ∨ ((∀ x ∈ l, x.o.dst ≠ some d) ∧ t.get d = some v)
  | [], t, t', h, _, d, v, hd => by
    have h : some t = some t' := h
    injection h with h
    subst h
    exact .inr ⟨fun x h => (by cases h), hd⟩
  | x :: l, t, t', h, hu, d, v, hd => by
    have hc : endT vals nt (x :: l) t = (match x.o.dst with
      | none => endT vals nt l t
      | some d => (match vals.get x.i with
        | some v => endT vals nt l (t.set d (some v))
        | none => none)) := rfl
    rw [hc] at h
    have hu' : ∀ x ∈ l, ∀ y ∈ l, ∀ d, x.o.dst = some d → y.o.dst = some d → x = y := fun a ha b hb => hu a (List.mem_cons_of_mem _ ha) b (List.mem_cons_of_mem _ hb)
    split at h
    · rename_i hx
      rcases endT_spec vals nt l t t' h hu' d v hd with ⟨y, h1, h2⟩ | ⟨h1, h2⟩
      · exact .inl ⟨y, List.mem_cons_of_mem _ h1, h2⟩
      · refine .inr ⟨fun y hy => ?_, h2⟩
        rcases List.mem_cons.1 hy with rfl | hy
        · rw [hx]; exact fun e => by cases e
        · exact h1 y hy
    · rename_i e hx
      split at h
      · rename_i u hu1
        rcases endT_spec vals nt l _ t' h hu' d v hd with ⟨y, h1, h2⟩ | ⟨h1, h2⟩
        · exact .inl ⟨y, List.mem_cons_of_mem _ h1, h2⟩
        · rw [get_set] at h2
          split at h2
          · rename_i hde
            subst hde
            injection h2 with h2
            subst h2
            exact .inl ⟨x, List.mem_cons_self, hx, hu1⟩
          · rename_i hde
            refine .inr ⟨fun y hy => ?_, h2⟩
            rcases List.mem_cons.1 hy with rfl | hy
            · rw [hx]; intro hh; injection hh with hh; exact hde hh.symm
            · exact h1 y hy
      · cases h

theorem DrC.all {tm : Array Value} {nt : Nat} {t' : Tr AV} (h : DrC C E M m B nx ops pl p lp vals als t listed tm) (hall : ∀ i, i < ops.size → Lst listed i) (he : endT vals nt pl.l t = some t') : RT E t' tm := by
  intro d v hd
  rcases endT_spec vals nt pl.l t t' he (fun x hx y hy d h1 h2 => h.ok.one hx hy h1 h2) d v hd with ⟨x, h1, h2, h3⟩ | ⟨h1, h2⟩
  · obtain ⟨u, h4, h5⟩ := h.new x h1 (hall _ (h.ok.mem h1).2.2.2)
    rw [h3] at h4
    injection h4 with h4
    subst h4
    exact h5 d h2
  · exact h.old d v h2 fun x hx hxd => absurd hxd (h1 x hx)
end
end Go.Ev
