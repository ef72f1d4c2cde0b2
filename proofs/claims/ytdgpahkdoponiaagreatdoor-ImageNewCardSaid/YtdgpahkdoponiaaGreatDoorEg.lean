/- ImageNew answers true for every number of words, whatever lies in memory, where the listed package variables hold what the program's text lays in them. This text is a part of that proof. -/
import Derived.Test.YtdgpahkdoponiaaGreatDoorEf
import Derived.OpenShut
import Derived.Below
import Derived.ChangeSame
namespace Go.Ev
set_option linter.unusedVariables false
set_option linter.unusedSimpArgs false

/-- From an abstract state to a later one. -/
def Sim (C : Ctx) (s s' : AState) : Prop := ∀ (P : Program) (W0 : World) (Q : Nat → Prop) (cs : List Frame) (fr : Frame) (ccs : List Frame) (w : World), PrOk P C → RS C W0 Q cs s fr ccs w →
  ∃ fr' ccs' w', Steps P (lone fr ccs w) (lone fr' ccs' w') ∧ RS C W0 Q cs s' fr' ccs' w'

theorem Sim.refl (C : Ctx) (s : AState) : Sim C s s := fun P _ _ _ fr ccs w _ h => ⟨fr, ccs, w, .refl P _, h⟩
theorem Sim.trans {C : Ctx} {a b c : AState} (h : Sim C a b) (k : Sim C b c) : Sim C a c := fun P W0 Q cs fr ccs w hP hs =>
  let ⟨fr1, ccs1, w1, h1, h2⟩ := h P W0 Q cs fr ccs w hP hs
  let ⟨fr2, ccs2, w2, h3, h4⟩ := k P W0 Q cs fr1 ccs1 w1 hP h2
  ⟨fr2, ccs2, w2, Steps.trans h1 h3, h4⟩
theorem Sim.run {C : Ctx} (n : Nat) (s : AState) : Sim C s (arun C n s) := fun _ _ _ _ _ _ _ hP hs => arun_sound hP n hs

/-! Less is kept of the heap. -/
noncomputable def keepM (ids : List Nat) (m : Tr AObj) : Tr AObj := List.rec (motive := fun _ => Tr AObj) .e (fun i _ r => r.set i (m.get i)) ids
theorem keepM_sub : ∀ (ids : List Nat) (m : Tr AObj) (b : Nat) (o : AObj), (keepM ids m).get b = some o → m.get b = some o
  | [], m, b, o, h => by cases h
  | i :: ids, m, b, o, h => by
    have h : ((keepM ids m).set i (m.get i)).get b = some o := h
    rw [get_set] at h
    split at h
    · rename_i e; subst e; exact h
    · exact keepM_sub ids m b o h

noncomputable def keepS (ids : List Nat) (s : AState) : AState :=
  match s with
  | ⟨fr, cs, m, nx⟩ => (match fr with
    | ⟨_, .dr _ _ _ _, _, _, _, _, _, _, _⟩ => ⟨fr, cs, m, nx⟩
    | fr => ⟨fr, cs, keepM ids m, nx⟩)

theorem RReg.less {C : Ctx} {E : Em} {M : Nat → Option AObj} {m m' : Tr AObj} {B nx : Nat} {w ret : Bool} {reg : AReg} {t : Tr AV} {todo : List Item} {tm : Array Value} {ctodo : List Item} (hr : ∀ pl p vals als, reg ≠ .dr pl p vals als)
    (h : RReg C E M m B nx w ret reg t todo tm ctodo) : RReg C E M m' B nx w ret reg t todo tm ctodo := by
  cases reg with
  | dr pl p vals als => exact absurd rfl (hr _ _ _ _)
  | no => exact h
  | seq ops rest i => exact h
  | rfun b => exact h
  | rend b => exact h

theorem RS.less {C : Ctx} {W0 : World} {Q : Nat → Prop} {cs : List Frame} {fr : AFrame} {as : List AFrame} {m m' : Tr AObj} {nx : Nat} {cf : Frame} {ccs : List Frame} {w : World}
    (h : RS C W0 Q cs ⟨fr, as, m, nx⟩ cf ccs w) (hr : ∀ pl p vals als, fr.reg ≠ .dr pl p vals als) (hm : ∀ b o, m'.get b = some o → m.get b = some o) : RS C W0 Q cs ⟨fr, as, m', nx⟩ cf ccs w := by
  obtain ⟨E, M, B, h1, h2, h3, h4⟩ := h
  refine ⟨E, M, B, { h1 with sub := fun b o hb => h1.sub b o (hm b o hb) }, h2, { h3 with reg := RReg.less hr h3.reg }, ?_⟩
  have hgone : ∀ b, m.get b = none → m'.get b = none := fun b h0 => by
    cases hg : m'.get b with
    | none => rfl
    | some o => have h1 := hm b o hg; rw [h0] at h1; cases h1
  have hl : Later B E M m E M m' := ⟨E.le_refl, fun _ _ => rfl, fun b _ h0 => hgone b h0, fun _ _ h _ => h⟩
  exact RFs.later hl (Nat.le_refl _) h4

theorem Sim.keep {C : Ctx} (ids : List Nat) (s : AState) : Sim C s (keepS ids s) := fun P W0 Q cs cf ccs w hP hs => by
  obtain ⟨fr, as, m, nx⟩ := s
  refine ⟨cf, ccs, w, .refl P _, ?_⟩
  unfold keepS
  split
  rename_i fr' as' m' nx' heq
  injection heq with e1 e2 e3 e4
  subst e1 e2 e3 e4
  split
  · exact hs
  · rename_i hno
    refine hs.less (fun pl p vals als he => ?_) (keepM_sub ids m)
    obtain ⟨fn, reg, todo, t, nt, ds, ret, dfr, round⟩ := fr
    simp only at he
    subst he
    exact hno _ _ _ _ _ _ _ _ _ _ _ _ rfl

theorem Sim.piece {C : Ctx} {s s' : AState} (n : Nat) (ids : List Nat) (h : keepS ids (arun C n s) = s') : Sim C s s' := h ▸ (Sim.run n s).trans (Sim.keep ids _)

/-! A narrower interval. -/
noncomputable def narrowS (i : Nat) (v : AV) (s : AState) : AState :=
  match s with
  | ⟨⟨fn, .no, todo, t, nt, ds, ret, dfr, round⟩, cs, m, nx⟩ => ⟨⟨fn, .no, todo, t.set i (some v), nt, ds, ret, dfr, round⟩, cs, m, nx⟩
  | s => s

theorem Sim.narrow {C : Ctx} {i : Nat} {v0 v : AV} {s : AState} (hv : s.fr.t.get i = some v0) (h : ∀ (E : Em) (u : Value), E.v = C.V → RV E v0 u → RV E v u) : Sim C s (narrowS i v s) := fun P W0 Q cs cf ccs w hP hs => by
  refine ⟨cf, ccs, w, .refl P _, ?_⟩
  unfold narrowS
  split
  · rename_i fn todo t nt ds ret dfr round as m nx
    obtain ⟨E, M, B, k1, k2, k3, k4⟩ := hs
    refine ⟨E, M, B, k1, k2, ?_, k4⟩
    have hreg := k3.reg
    simp only [RReg] at hreg
    obtain ⟨ht, htodo⟩ := hreg
    refine ⟨k3.fn, k3.mode, k3.kind, k3.round, k3.nt, k3.ds, ?_, htodo⟩
    intro j u hu
    rw [get_set] at hu
    split at hu
    · rename_i e'
      subst e'
      injection hu with hu
      subst hu
      obtain ⟨q, q1, q2⟩ := ht j _ hv
      exact ⟨q, q1, h E q k1.vl q2⟩
    · exact ht j u hu
  · exact hs
theorem rv_narrow {E : Em} {V : SV} {k : IntKind} {lo hi lo' hi' : Int} {e : SE} {u : Value} (hE : E.v = V) (h1 : lo' ≤ (e.ev V).1) (h2 : (e.ev V).1 ≤ hi') (h : RV E (.unk k lo hi e) u) : RV E (.unk k lo' hi' e) u := by
  cases h with
  | unk _ _ _ _ n a b c => rw [hE] at a; exact .unk _ _ _ _ n (by rw [hE]; exact a) (a ▸ h1) (a ▸ h2)
theorem rv_const {E : Em} {V : SV} {k : IntKind} {lo hi n : Int} {e : SE} {u : Value} (hE : E.v = V) (h1 : (e.ev V).1 = n) (h : RV E (.unk k lo hi e) u) : RV E (.int k n) u := by
  cases h with
  | unk _ _ _ _ n' a b c => rw [hE] at a; rw [← h1, a]; exact .int _ _

/-- Where a run begins. -/
theorem RS.start {P : Program} {C : Ctx} {W0 : World} {Q : Nat → Prop} {E : Em} {m : Tr AObj} {nx : Nat} {w : World} {cs : List Frame} {f : FuncId} {args : List AV} {g : AFrame} {args' : Array Value} (hP : PrOk P C) (hs : HS C.G C.V W0 Q E m.get m nx w)
    (hg : enterA C f args false = some g) (hr : RVs E args args'.toList) : RS C W0 Q cs ⟨g, [], m, nx⟩ (Frame.enter P f args' .normal) cs w := by
  obtain ⟨_, h1, h2⟩ := enter_sound (E := E) (M := m.get) (m := m) (nx := nx) hP hg hr
  exact ⟨E, m.get, nx, hs, Nat.le_refl _, h1, rfl⟩

/-- Is a state one that has come to its end? What it answers. -/
noncomputable def ended (C : Ctx) (s : AState) : Option (List AV) :=
  match s with
  | ⟨⟨fn, .no, _, t, _, [], true, false, _⟩, [], m, _⟩ => (match C.F.get fn with
    | some ⟨_, _, rs⟩ => resA C t m rs
    | none => none)
  | _ => none

theorem RS.ended {P : Program} {C : Ctx} {W0 : World} {Q : Nat → Prop} {cs : List Frame} {s : AState} {l : List AV} {cf : Frame} {ccs : List Frame} {w : World} (hP : PrOk P C) (hs : RS C W0 Q cs s cf ccs w) (he : Go.Ev.ended C s = some l) :
    ccs = cs ∧ cf.fn = s.fr.fn ∧ ∃ E M v, cf.leaving P w (.returned v) ∧ RV E (oneA l) v ∧ HS C.G C.V W0 Q E M s.m s.nx w := by
  unfold Go.Ev.ended at he
  split at he
  · rename_i fn todo t nt round m nx
    split at he
    · rename_i body ntmps rs hfn
      obtain ⟨E, M, B, k1, k2, k3, k4⟩ := hs
      have hreg := k3.reg
      simp only [RReg] at hreg
      obtain ⟨ht, _⟩ := hreg
      obtain ⟨fnd, h1, h2, h3, h4⟩ := hP.fns fn _ hfn
      have hcfn : cf.fn = fn := k3.fn
      obtain ⟨v, hv1, hv2⟩ := res_sound hP k1.rhm ht h4 he
      have hd : RDs E [] cf.defers := k3.ds
      have hcd : cf.defers = [] := by
        cases hcd : cf.defers with
        | nil => rfl
        | cons d cds => rw [hcd] at hd; exact hd.elim
      exact ⟨k4, hcfn, E, M, v, ⟨k3.mode, hcd, k3.kind, fnd, hcfn ▸ h1, hv1⟩, hv2, k1⟩
    · cases he
  · cases he

/-- A CALL, out of a run. -/
theorem calls_of_sim {P : Program} {C : Ctx} {W0 : World} {Q : Nat → Prop} {E : Em} {m : Tr AObj} {nx : Nat} {w : World} {f : FuncId} {args : List AV} {g : AFrame} {args' : Array Value} {s : AState} {l : List AV} (hP : PrOk P C) (hs : HS C.G C.V W0 Q E m.get m nx w)
    (hg : enterA C f args false = some g) (hr : RVs E args args'.toList) (hsim : Sim C ⟨g, [], m, nx⟩ s) (he : ended C s = some l) (hfn : s.fr.fn = f) :
    Calls P f args' w fun e w' => ∃ v E' M', e = .returned v ∧ RV E' (oneA l) v ∧ HS C.G C.V W0 Q E' M' s.m s.nx w' := fun cs => by
  obtain ⟨fr', ccs', w', h1, h2⟩ := hsim P W0 Q cs _ _ w hP (RS.start (cs := cs) hP hs hg hr)
  obtain ⟨k1, k2, E', M', v, k3, k4, k5⟩ := h2.ended hP he
  subst k1
  exact ⟨.returned v, w', fr', ⟨v, E', M', rfl, k4, k5⟩, h1, k2.trans hfn, k3⟩
end Go.Ev
namespace Go.Ev
set_option linter.unusedVariables false
set_option linter.unusedSimpArgs false

/-! A region whose order is drawn, all its orders tried one by one; where all come to one state. -/
noncomputable def eqTr {α : Type} (f : α → α → Bool) (a : Tr α) : Tr α → Bool :=
  Tr.rec (motive := fun _ => Tr α → Bool) (fun b => match b with | .e => true | .n _ _ _ => false)
    (fun v _ _ rl rr b => match b with
      | .e => false
      | .n v' l' r' => (match v, v' with
        | none, none => (match rl l' with | true => rr r' | false => false)
        | some x, some y => (match f x y with | true => (match rl l' with | true => rr r' | false => false) | false => false)
        | _, _ => false)) a
theorem eqTr_eq {α : Type} {f : α → α → Bool} (hf : ∀ x y, f x y = true → x = y) : ∀ (a b : Tr α), eqTr f a b = true → a = b
  | .e, .e, _ => rfl
  | .e, .n _ _ _, h => by cases h
  | .n _ _ _, .e, h => by cases h
  | .n v l r, .n v' l' r', h => by
    have h : (match (generalizing := false) v, v' with
        | none, none => (match eqTr f l l' with | true => eqTr f r r' | false => false)
        | some x, some y => (match f x y with | true => (match eqTr f l l' with | true => eqTr f r r' | false => false) | false => false)
        | _, _ => false) = true := h
    split at h
    · split at h
      · rename_i h1; rw [eqTr_eq hf l l' h1, eqTr_eq hf r r' h]
      · cases h
    · split at h
      · rename_i h0
        split at h
        · rename_i h1; rw [hf _ _ h0, eqTr_eq hf l l' h1, eqTr_eq hf r r' h]
        · cases h
      · cases h
    · cases h

noncomputable def sameEs (l : List (AV × AV × Nat)) : List (AV × AV × Nat) → Bool :=
  List.rec (motive := fun _ => List (AV × AV × Nat) → Bool) (fun b => match b with | [] => true | _ :: _ => false)
    (fun x _ r b => match b with
      | [] => false
      | y :: b => (match sameV 30 x.1 y.1, sameV 30 x.2.1 y.2.1, Nat.beq x.2.2 y.2.2 with | true, true, true => r b | _, _, _ => false)) l
theorem sameEs_eq : ∀ (a b : List (AV × AV × Nat)), sameEs a b = true → a = b
  | [], [], _ => rfl
  | [], _ :: _, h => by cases h
  | _ :: _, [], h => by cases h
  | (x1, x2, x3) :: a, (y1, y2, y3) :: b, h => by
    have h : (match sameV 30 x1 y1, sameV 30 x2 y2, Nat.beq x3 y3 with | true, true, true => sameEs a b | _, _, _ => false) = true := h
    split at h
    · rename_i h1 h2 h3
      rw [sameV_eq _ _ _ h1, sameV_eq _ _ _ h2, Nat.eq_of_beq_eq_true h3, sameEs_eq a b h]
    · cases h
noncomputable def sameO (a b : AObj) : Bool :=
  match a, b with
  | .cells c true, .cells c' true => eqTr (sameV 30) c c'
  | .cells c false, .cells c' false => eqTr (sameV 30) c c'
  | .map es ck, .map es' ck' => (match Nat.beq ck ck' with | true => sameEs es es' | false => false)
  | .defs, .defs => true
  | _, _ => false
theorem sameO_eq (a b : AObj) (h : sameO a b = true) : a = b := by
  unfold sameO at h
  split at h
  · rw [eqTr_eq (sameV_eq 30) _ _ h]
  · rw [eqTr_eq (sameV_eq 30) _ _ h]
  · split at h
    · rename_i h1; rw [Nat.eq_of_beq_eq_true h1, sameEs_eq _ _ h]
    · cases h
  · rfl
  · cases h

/-- All that the one has, the other has. -/
noncomputable def subTr {α : Type} (f : α → α → Bool) (a : Tr α) : Tr α → Bool :=
  Tr.rec (motive := fun _ => Tr α → Bool) (fun _ => true)
    (fun v _ _ rl rr b => match b with
      | .e => (match v with
        | none => (match rl .e with | true => rr .e | false => false)
        | some _ => false)
      | .n v' l' r' => (match v, v' with
        | none, _ => (match rl l' with | true => rr r' | false => false)
        | some x, some y => (match f x y with | true => (match rl l' with | true => rr r' | false => false) | false => false)
        | some _, none => false)) a
theorem subTr_get {α : Type} {f : α → α → Bool} (hf : ∀ x y, f x y = true → x = y) : ∀ (a b : Tr α), subTr f a b = true → ∀ i x, a.get i = some x → b.get i = some x
  | .e, b, _, i, x, h => by cases h
  | .n v l r, .e, h, i, x, hx => by
    have h : (match (generalizing := false) v with
        | none => (match subTr f l .e with | true => subTr f r .e | false => false)
        | some _ => false) = true := h
    split at h
    · split at h
      · rename_i h1
        cases i with
        | zero => rw [get_zero] at hx; cases hx
        | succ i =>
          rw [get_succ] at hx
          split at hx
          · have := subTr_get hf l .e h1 _ x hx; cases this
          · have := subTr_get hf r .e h _ x hx; cases this
      · cases h
    · cases h
  | .n v l r, .n v' l' r', h, i, x, hx => by
    have h : (match (generalizing := false) v, v' with
        | none, _ => (match subTr f l l' with | true => subTr f r r' | false => false)
        | some x, some y => (match f x y with | true => (match subTr f l l' with | true => subTr f r r' | false => false) | false => false)
        | some _, none => false) = true := h
    have rest : subTr f l l' = true → subTr f r r' = true → ∀ i, (Tr.n v l r).get (i + 1) = some x → (Tr.n v' l' r').get (i + 1) = some x := by
      intro h1 h2 i hi
      rw [get_succ] at hi ⊢
      split at hi
      · rename_i hm; rw [if_pos hm]; exact subTr_get hf l l' h1 _ x hi
      · rename_i hm; rw [if_neg hm]; exact subTr_get hf r r' h2 _ x hi
    split at h
    · split at h
      · rename_i h1
        cases i with
        | zero => rw [get_zero] at hx; cases hx
        | succ i => exact rest h1 h i hx
      · cases h
    · split at h
      · rename_i h0
        split at h
        · rename_i h1
          cases i with
          | zero =>
            rw [get_zero] at hx ⊢
            injection hx with hx
            subst hx
            rw [hf _ _ h0]
          | succ i => exact rest h1 h i hx
        · cases h
      · cases h
    · cases h

/-- Which may come now: 'mask': those that are done. -/
noncomputable def rdyA (mask : Nat) (ops : List Oper) : Nat → List Nat :=
  List.rec (motive := fun _ => Nat → List Nat) (fun _ => [])
    (fun o _ r i => match mask.testBit i, lall (fun e => match bindsA e with | true => mask.testBit e.on | false => true) o.after.toList with
      | false, true => i :: r (i + 1)
      | _, _ => r (i + 1)) ops
theorem rdyA_cons (mask : Nat) (o : Oper) (ops : List Oper) (i : Nat) : rdyA mask (o :: ops) i = (match mask.testBit i, lall (fun e => match bindsA e with | true => mask.testBit e.on | false => true) o.after.toList with
      | false, true => i :: rdyA mask ops (i + 1)
      | _, _ => rdyA mask ops (i + 1)) := rfl
theorem lall_of {α : Type} (f : α → Bool) : ∀ (l : List α), (∀ a ∈ l, f a = true) → lall f l = true
  | [], _ => rfl
  | a :: l, h => by
    show (match f a with | true => lall f l | false => false) = true
    rw [h a List.mem_cons_self]
    exact lall_of f l fun b hb => h b (List.mem_cons_of_mem _ hb)
theorem rdyA_mem (mask : Nat) : ∀ (ops : List Oper) (j i : Nat) (o : Oper), ops[i]? = some o → mask.testBit (j + i) = false → (∀ e ∈ o.after.toList, bindsA e = true → mask.testBit e.on = true) → j + i ∈ rdyA mask ops j
  | [], j, i, o, h, _, _ => by simp at h
  | o' :: ops, j, 0, o, h, h1, h2 => by
    simp only [List.getElem?_cons_zero, Option.some.injEq] at h
    subst h
    have hl : lall (fun e => match bindsA e with | true => mask.testBit e.on | false => true) o'.after.toList = true := lall_of _ _ fun e he => by
      cases hb : bindsA e with
      | true => simp only; exact h2 e he hb
      | false => rfl
    rw [rdyA_cons, hl]
    simp only [Nat.add_zero] at h1
    rw [h1]
    exact List.mem_cons_self
  | o' :: ops, j, i + 1, o, h, h1, h2 => by
    simp only [List.getElem?_cons_succ] at h
    have := rdyA_mem mask ops (j + 1) i o h (by rw [show j + 1 + i = j + (i + 1) by omega]; exact h1) h2
    rw [show j + 1 + i = j + (i + 1) by omega] at this
    rw [rdyA_cons]
    split
    · exact List.mem_cons_of_mem _ this
    · exact this

noncomputable def anyOk (C : Ctx) (ops : Array Oper) (nt : Nat) (T : Tr AV) (Mt : Tr AObj) (NX : Nat) (n : Nat) : Nat → Tr AV → Tr AObj → Nat → Bool :=
  Nat.rec (motive := fun _ => Nat → Tr AV → Tr AObj → Nat → Bool) (fun _ _ _ _ => false)
    (fun _ r mask t m nx => match rdyA mask ops.toList 0 with
      | [] => (match subTr (sameV 30) T t, subTr sameO Mt m, Nat.ble nx NX with | true, true, true => true | _, _, _ => false)
      | i0 :: l0 => lall (fun i => match ops.toList[i]? with
        | some o => (match wantA ops.toList t o.guard with
          | some true => (match actA C t m nx false o.op with
            | some (.val v m' nx') => (match putT t nt o.dst v with | some t' => r (mask ||| 2 ^ i) t' m' nx' | none => false)
            | _ => false)
          | some false => (match putT t nt o.dst (.tup []) with | some t' => r (mask ||| 2 ^ i) t' m nx | none => false)
          | none => false)
        | none => false) (i0 :: l0)) n

theorem go_cases (ops : Array Oper) (listed : Array Bool) (hsz : listed.size = ops.size) (fuel tt : Nat) (hf : unl listed ≤ fuel) :
    (Region.ready .any ops listed = [] ∧ Region.linearise.go .any ops fuel tt listed [] = []) ∨
    ∃ i fuel' tt', i ∈ Region.ready .any ops listed ∧ unl (listed.setIfInBounds i true) ≤ fuel' ∧ Region.linearise.go .any ops fuel tt listed [] = i :: Region.linearise.go .any ops fuel' tt' (listed.setIfInBounds i true) [] := by
  cases fuel with
  | zero =>
    left
    refine ⟨?_, rfl⟩
    cases hr : Region.ready .any ops listed with
    | nil => rfl
    | cons i l =>
      exfalso
      have hi : i ∈ Region.ready .any ops listed := by rw [hr]; exact List.mem_cons_self
      obtain ⟨o, ho, hn, _⟩ := (mem_ready listed hsz i).1 hi
      have := unl_set (i := i) (by rw [hsz]; exact (Array.getElem?_eq_some_iff.1 ho).1) hn
      omega
  | succ fuel =>
    have hgo : Region.linearise.go .any ops (fuel + 1) tt listed [] = match (Region.ready .any ops listed)[tt % (Region.ready .any ops listed).length]? with
      | some i => Region.linearise.go .any ops fuel (tt / (Region.ready .any ops listed).length) (listed.setIfInBounds i true) [i]
      | none => [] := rfl
    cases hi : (Region.ready .any ops listed)[tt % (Region.ready .any ops listed).length]? with
    | none =>
      left
      refine ⟨?_, by rw [hgo, hi]⟩
      cases hr : Region.ready .any ops listed with
      | nil => rfl
      | cons x xs =>
        rw [hr] at hi
        have hlt : tt % (x :: xs).length < (x :: xs).length := Nat.mod_lt _ (by simp)
        simp at hi
        simp at hlt
        omega
    | some i =>
      right
      have hm := List.mem_of_getElem? hi
      obtain ⟨o, ho, hn, _⟩ := (mem_ready listed hsz i).1 hm
      refine ⟨i, fuel, tt / (Region.ready .any ops listed).length, hm, ?_, ?_⟩
      · have := unl_set (i := i) (by rw [hsz]; exact (Array.getElem?_eq_some_iff.1 ho).1) hn
        omega
      · rw [hgo, hi]
        simp only
        rw [linearise_go_acc, List.reverse_singleton, List.singleton_append]

section
variable {P : Program} {C : Ctx} {W0 : World} {Q : Nat → Prop}

theorem HS.less {E : Em} {M : Nat → Option AObj} {m m' : Tr AObj} {nx nx' : Nat} {w : World} (h : HS C.G C.V W0 Q E M m nx w) (hm : ∀ b o, m'.get b = some o → m.get b = some o) (hn : nx ≤ nx') : HS C.G C.V W0 Q E M m' nx' w ∧ ∀ L, Later L E M m E M m' := by
  have hgone : ∀ b, m.get b = none → m'.get b = none := fun b h0 => by
    cases hg : m'.get b with
    | none => rfl
    | some o => have h1 := hm b o hg; rw [h0] at h1; cases h1
  exact ⟨{ h with sub := fun b o hb => h.sub b o (hm b o hb), fr := Em.fresh_mono h.fr hn }, fun L => ⟨E.le_refl, fun _ _ => rfl, fun b _ h0 => hgone b h0, fun _ _ h _ => h⟩⟩

theorem Later.comp {L : Nat} {E E' E'' : Em} {M M' M'' : Nat → Option AObj} {m m' m'' : Tr AObj} (h : Later L E M m E' M' m') (k : Later L E' M' m' E'' M'' m'') (hM : ∀ b o, M b = some o → m.get b = none → b < L → m'.get b = none) (hL : ∀ b o, M b = some o → b < L) : Later L E M m E'' M'' m'' :=
  ⟨Em.le_trans h.le k.le, fun b hb => (k.loc b hb).trans (h.loc b hb), fun b hb h0 => k.gone b hb (h.gone b hb h0), fun b o hb h0 => k.keep b o (h.keep b o hb h0) (hM b o hb h0 (hL b o hb))⟩

theorem any_sound (hP : PrOk P C) {ops : Array Oper} {nt : Nat} {T : Tr AV} {Mt : Tr AObj} {NX : Nat} {b : Frame} {k : List Item} {ccs : List Frame} : ∀ (n : Nat) {E : Em} {M : Nat → Option AObj} {m : Tr AObj} {nx : Nat} {w : World} {a : Act} {listed : Array Bool} {mask fuel tt : Nat} {t : Tr AV},
    anyOk C ops nt T Mt NX n mask t m nx = true → listed.size = ops.size → (∀ i, i < ops.size → (mask.testBit i = true ↔ Lst listed i)) → (∀ i, mask.testBit i = true → i < ops.size) → unl listed ≤ fuel → HS C.G C.V W0 Q E M m nx w → RT E t a.tmps → a.tmps.size = nt →
    ∃ E' M' w' a', Steps P (lone (b.atR a (.inRegion ops (Region.linearise.go .any ops fuel tt listed []) :: k)) ccs w) (lone (b.atR a' (.inRegion ops [] :: k)) ccs w') ∧ HS C.G C.V W0 Q E' M' Mt NX w' ∧ Later nx E M m E' M' Mt ∧ RT E' T a'.tmps ∧ a'.defers = a.defers ∧ a'.tmps.size = nt ∧ nx ≤ NX := by
  intro n
  induction n with
  | zero => intro E M m nx w a listed mask fuel tt t h; cases h
  | succ n ih =>
    intro E M m nx w a listed mask fuel tt t h hsz hmask hbits hf hs ht hnt
    have h : (match rdyA mask ops.toList 0 with
      | [] => (match subTr (sameV 30) T t, subTr sameO Mt m, Nat.ble nx NX with | true, true, true => true | _, _, _ => false)
      | i0 :: l0 => lall (fun i => match ops.toList[i]? with
        | some o => (match wantA ops.toList t o.guard with
          | some true => (match actA C t m nx false o.op with
            | some (.val v m' nx') => (match putT t nt o.dst v with | some t' => anyOk C ops nt T Mt NX n (mask ||| 2 ^ i) t' m' nx' | none => false)
            | _ => false)
          | some false => (match putT t nt o.dst (.tup []) with | some t' => anyOk C ops nt T Mt NX n (mask ||| 2 ^ i) t' m nx | none => false)
          | none => false)
        | none => false) (i0 :: l0)) = true := h
    have hbelow : ∀ b o, M b = some o → b < nx := hs.dom
    -- one that may come is in the list
    have hrdy : ∀ i, i ∈ Region.ready .any ops listed → i ∈ rdyA mask ops.toList 0 := by
      intro i hi
      obtain ⟨o, ho, hn, hall⟩ := (mem_ready listed hsz i).1 hi
      have hlt := (Array.getElem?_eq_some_iff.1 ho).1
      have := rdyA_mem mask ops.toList 0 i o (by rw [Array.getElem?_toList]; exact ho) (by
        rw [Nat.zero_add]
        cases hb : mask.testBit i with
        | false => rfl
        | true => exact absurd ((hmask i hlt).1 hb) hn) (fun e he hb => by
          have hl := hall e he hb
          refine (hmask e.on ?_).2 hl
          have : listed[e.on]? = some true := hl
          rw [← hsz]
          exact (Array.getElem?_eq_some_iff.1 this).1)
      rwa [Nat.zero_add] at this
    rcases go_cases ops listed hsz fuel tt hf with ⟨hr, hgo⟩ | ⟨i, fuel', tt', hi, hf', hgo⟩
    · -- the end
      have hnil : rdyA mask ops.toList 0 = [] := by
        cases hq : rdyA mask ops.toList 0 with
        | nil => rfl
        | cons i l =>
          exfalso
          -- one of the list may come
          have back : ∀ (os : List Oper) (j : Nat) (x : Nat), x ∈ rdyA mask os j → ∃ d o, x = j + d ∧ os[d]? = some o ∧ mask.testBit x = false ∧ ∀ e ∈ o.after.toList, bindsA e = true → mask.testBit e.on = true := by
            intro os
            induction os with
            | nil => intro j x hx; cases hx
            | cons o os ih2 =>
              intro j x hx
              rw [rdyA_cons] at hx
              split at hx
              · rename_i h1 h2
                rcases List.mem_cons.1 hx with rfl | hx
                · refine ⟨0, o, rfl, rfl, h1, fun e he hb => ?_⟩
                  have := lall_spec _ _ h2 e he
                  rw [hb] at this
                  exact this
                · obtain ⟨d, o', q1, q2, q3⟩ := ih2 _ _ hx
                  exact ⟨d + 1, o', by omega, by simpa using q2, q3⟩
              · obtain ⟨d, o', q1, q2, q3⟩ := ih2 _ _ hx
                exact ⟨d + 1, o', by omega, by simpa using q2, q3⟩
          obtain ⟨d, o, q1, q2, q3, q4⟩ := back ops.toList 0 i (by rw [hq]; exact List.mem_cons_self)
          rw [Nat.zero_add] at q1
          subst q1
          rw [Array.getElem?_toList] at q2
          have hlt := (Array.getElem?_eq_some_iff.1 q2).1
          have : i ∈ Region.ready .any ops listed := by
            refine (mem_ready listed hsz i).2 ⟨o, q2, fun hl => ?_, fun e he hb => ?_⟩
            · have := (hmask i hlt).2 hl
              rw [this] at q3; cases q3
            · by_cases hon : e.on < ops.size
              · exact (hmask e.on hon).1 (q4 e he hb)
              · exfalso
                exact hon (hbits e.on (q4 e he hb))
          rw [hr] at this; cases this
      rw [hnil] at h
      simp only at h
      split at h
      · rename_i h1 h2 h3
        obtain ⟨k1, k2⟩ := hs.less (subTr_get sameO_eq _ _ h2) (Nat.le_of_ble_eq_true h3)
        refine ⟨E, M, w, a, by rw [hgo]; exact .refl P _, k1, k2 nx, ?_, rfl, hnt, Nat.le_of_ble_eq_true h3⟩
        intro j v hv
        exact ht j v (subTr_get (sameV_eq 30) _ _ h1 j v hv)
      · cases h
    · have hin := hrdy i hi
      obtain ⟨o, ho, hn, hall⟩ := (mem_ready listed hsz i).1 hi
      have hlt := (Array.getElem?_eq_some_iff.1 ho).1
      cases hq : rdyA mask ops.toList 0 with
      | nil => rw [hq] at hin; cases hin
      | cons i0 l0 =>
        rw [hq] at h hin
        have h := lall_spec _ _ h i hin
        have ho' : ops.toList[i]? = some o := by rw [Array.getElem?_toList]; exact ho
        simp only [ho'] at h
        have hsz' : (listed.setIfInBounds i true).size = ops.size := by simpa using hsz
        have hmask' : ∀ j, j < ops.size → ((mask ||| 2 ^ i).testBit j = true ↔ Lst (listed.setIfInBounds i true) j) := by
          intro j hj
          rw [Lst_set, Nat.testBit_or, Bool.or_eq_true, hmask j hj, Nat.testBit_two_pow, decide_eq_true_eq]
          constructor
          · rintro (h | h)
            · exact .inl h
            · exact .inr ⟨h, by omega⟩
          · rintro (h | ⟨h, _⟩)
            · exact .inl h
            · exact .inr h
        have hbits' : ∀ j, (mask ||| 2 ^ i).testBit j = true → j < ops.size := by
          intro j hj
          rw [Nat.testBit_or, Bool.or_eq_true, Nat.testBit_two_pow, decide_eq_true_eq] at hj
          rcases hj with hj | hj
          · exact hbits j hj
          · omega
        have hw : ∀ r, wantA ops.toList t o.guard = some r → Region.wanted o (yielded ops a.tmps) = r := fun r hr =>
          wantA_sound (E := E) hr fun d j w x _ _ _ v hv => ht d v hv
        rw [hgo]
        split at h
        · rename_i hwant
          split at h
          · rename_i v m' nx' hact
            split at h
            · rename_i t' hput
              have hout := act_sound (b := b) (a := a) (rest := Region.linearise.go .any ops fuel' tt' (listed.setIfInBounds i true) []) (k := k) (ccs := ccs) hP hs ho (hw _ hwant) (fun x _ => evo_sound hs.gl ht x) (fun hh => by cases hh) hact
              obtain ⟨E1, M1, v1, w1, k1, k2, k3, k4, k5⟩ := hout
              have ht1 : RT E1 t' (a.put o.dst v1).tmps := by
                have := (ht.mono k2.le).put hput hnt k4 a.defers
                cases a
                exact this
              obtain ⟨E2, M2, w2, a2, g1, g2, g3, g4, g5, g6, g7⟩ := ih (tt := tt') h hsz' hmask' hbits' hf' k1 ht1 (by rw [put_size]; exact hnt)
              refine ⟨E2, M2, w2, a2, Steps.trans k5 g1, g2, k2.trans g3 k3 hbelow, g4, by rw [g5, put_defs], g6, Nat.le_trans k3 g7⟩
            · cases h
          · cases h
        · rename_i hwant
          split at h
          · rename_i t' hput
            have hst := stepR_unwanted (P := P) (b := b) (a := a) (k := k) (cs := ccs) (w := w) (rest := Region.linearise.go .any ops fuel' tt' (listed.setIfInBounds i true) []) ho (hw _ hwant)
            have ht1 : RT E t' (a.put o.dst undef).tmps := by
              have := ht.put hput hnt (undef_rv E) a.defers
              cases a
              exact this
            obtain ⟨E2, M2, w2, a2, g1, g2, g3, g4, g5, g6, g7⟩ := ih (tt := tt') h hsz' hmask' hbits' hf' hs ht1 (by rw [put_size]; exact hnt)
            exact ⟨E2, M2, w2, a2, .head hst g1, g2, g3, g4, by rw [g5, put_defs], g6, g7⟩
          · cases h
        · cases h

/-- The region as a whole. -/
theorem Sim.any {fn : FuncId} {id : Nat} {ops : Array Oper} {k : List Item} {t t' : Tr AV} {nt : Nat} {ds : List ADef} {dfr : Bool} {round : Option Nat} {cs : List AFrame} {m m' : Tr AObj} {nx nx' : Nat} (n : Nat)
    (h : anyOk C ops nt t' m' nx' n 0 t m nx = true) : Sim C ⟨⟨fn, .no, .code (.region id ops true) :: k, t, nt, ds, false, dfr, round⟩, cs, m, nx⟩ ⟨⟨fn, .no, k, t', nt, ds, false, dfr, round⟩, cs, m', nx'⟩ := fun P W0 Q ccs0 cf ccs w hP hs => by
  obtain ⟨E, M, B, hs, hB, hf, hfs⟩ := hs
  simp only at hs hB hf hfs
  have hreg := hf.reg
  simp only [RReg] at hreg
  obtain ⟨ht, htodo⟩ := hreg
  have htodo := htodo trivial
  have hmode : cf.mode = .run := hf.mode
  have hself : cf.atR ⟨cf.tmps, cf.defers⟩ cf.todo = cf := atR_self hmode
  rw [htodo] at hself
  have hround0 : RRd E round cf.roundOf := hf.round
  have hst := stepR_region_draw (P := P) (b := cf) (a := ⟨cf.tmps, cf.defers⟩) (k := k) (cs := ccs) (w := w) (ops := ops) (id := id)
  rw [hself] at hst
  simp only [Region.schedule, hP.mixed, Bool.true_or, if_true, Region.linearise] at hst
  have hs' : HS C.G C.V W0 Q E M m nx { w with drawn := w.drawn + 1 } := ⟨hs.rh.of_heap rfl, hs.sub, hs.fr, hs.gl, hs.vl, hs.old, hs.lim, hs.hq, hs.size, hs.os, hs.tape, hs.out⟩
  have hnone : ∀ i, ¬ Lst (Array.replicate ops.size false) i := fun i hl => by
    unfold Lst at hl
    rw [Array.getElem?_replicate] at hl
    split at hl
    · injection hl with hl; cases hl
    · cases hl
  obtain ⟨E', M', w', a', g1, g2, g3, g4, g5, g6, g7⟩ := any_sound (b := cf) (k := k) (ccs := ccs) hP n (a := ⟨cf.tmps, cf.defers⟩) (listed := Array.replicate ops.size false) (fuel := ops.size) h (by simp) (fun i _ => ⟨fun hh => by simp at hh, fun hh => absurd hh (hnone i)⟩) (fun i hh => by simp at hh) (by simp [unl]) hs' ht hf.nt
  have hend := stepR_region_end (P := P) (b := cf) (a := a') (k := k) (cs := ccs) (w := w') (ops := ops)
  refine ⟨_, ccs, w', .head hst (Steps.trans g1 (.one hend)), E', M', B, g2, Nat.le_trans hB g7, ?_, RFs.later (g3.less hB) (Nat.le_refl B) hfs⟩
  refine ⟨hf.fn, rfl, hf.kind, hround0.mono g3.le, g6, ?_, g4, fun _ => rfl⟩
  simp only [Frame.atR]
  rw [g5]
  exact hf.ds.mono g3.le
end
end Go.Ev
namespace Go.Ev
set_option linter.unusedVariables false
set_option linter.unusedSimpArgs false

/-! What the listed variables hold, as blocks of the abstract heap. -/
section
variable {P : Program} {w : World} {base : Nat} {spare : Nat → Bool} {held : Bool} {fuel : Nat} {t e : TypeId} {cs : List Value} {p : List MemPlace} {n : Nat}

theorem trod_ints {k : IntKind} {l : List Int} (ht : P.underlying t = some (.array n e)) (he : P.underlying e = some (.int k)) (hc : P.cellsOf e = 1)
    (h : DataW.trod (fun _ => ()) P w base spare held fuel t cs = some (.agg (l.map fun x => .lit (.int k x)), p)) : ∀ (i : Nat) x, l[i]? = some x → cs[i]? = some (.int k x) := by
  obtain ⟨xs, m, rfl, hx, h1, h2, h3⟩ := DataW.trod_array ht h
  simp only [Prod.mk.injEq, DataW.agg.injEq] at hx
  intro i x hi
  have hlen : l.length = xs.length := by have := congrArg List.length hx.1; simpa using this
  have hlt : i < n := by
    have := (List.getElem?_eq_some_iff.1 hi).1
    omega
  have h4 := h3 i hlt
  rw [hc, Nat.mul_one] at h4
  have hxi : xs[i]? = some xs[i] := List.getElem?_eq_getElem (by omega)
  rw [hxi] at h4
  obtain ⟨q, e1, e2, _⟩ := DataW.trod_int he h4
  have h5 : (xs.map (·.1))[i]? = (l.map fun x => (DataW.lit (.int k x) : DataW Unit))[i]? := by rw [hx.1]
  rw [List.getElem?_map, List.getElem?_map, hxi, hi] at h5
  simp only [Option.map_some, Option.some.injEq] at h5
  rw [e2] at h5
  simp only [DataW.lit.injEq, Lit.int.injEq, true_and] at h5
  subst h5
  have : (List.take 1 (List.drop i cs))[0]? = some (.int k q) := by rw [e1]; rfl
  simpa using this

theorem trod_strs {l : List (List UInt8)} (ht : P.underlying t = some (.array n e)) (he : P.underlying e = some .string) (hc : P.cellsOf e = 1)
    (h : DataW.trod (fun _ => ()) P w base spare held fuel t cs = some (.agg (l.map fun x => .lit (.string x)), p)) : ∀ (i : Nat) x, l[i]? = some x → ∃ s : ByteArray, cs[i]? = some (.string s) ∧ s.data.toList = x := by
  obtain ⟨xs, m, rfl, hx, h1, h2, h3⟩ := DataW.trod_array ht h
  simp only [Prod.mk.injEq, DataW.agg.injEq] at hx
  intro i x hi
  have hlen : l.length = xs.length := by have := congrArg List.length hx.1; simpa using this
  have hlt : i < n := by
    have := (List.getElem?_eq_some_iff.1 hi).1
    omega
  have h4 := h3 i hlt
  rw [hc, Nat.mul_one] at h4
  have hxi : xs[i]? = some xs[i] := List.getElem?_eq_getElem (by omega)
  rw [hxi] at h4
  obtain ⟨q, e1, e2, _⟩ := DataW.trod_string he h4
  have h5 : (xs.map (·.1))[i]? = (l.map fun x => (DataW.lit (.string x) : DataW Unit))[i]? := by rw [hx.1]
  rw [List.getElem?_map, List.getElem?_map, hxi, hi] at h5
  simp only [Option.map_some, Option.some.injEq] at h5
  rw [e2] at h5
  simp only [DataW.lit.injEq, Lit.string.injEq] at h5
  refine ⟨q, ?_, h5⟩
  have : (List.take 1 (List.drop i cs))[0]? = some (.string q) := by rw [e1]; rfl
  simpa using this
end

/-- Where the package-level variables lie. -/
noncomputable def emG (V : SV) (G : Nat) (w : World) : Em :=
  ⟨fun g => if g < G then some ⟨g, 0, match w.heap[g]? with | some (.cells ca _ _) => ca.size | _ => 0⟩ else none, V⟩

theorem rv_ints {E : Em} {k : IntKind} {l : List Int} {ca : Array Value} (h : ∀ (i : Nat) x, l[i]? = some x → ca.toList[i]? = some (.int k x)) :
    ∀ (i : Nat) v, (l.map (AV.int k))[i]? = some v → v.flat = true ∧ ∃ u, ca[i]? = some u ∧ RV E v u := by
  intro i v hv
  rw [List.getElem?_map] at hv
  cases hl : l[i]? with
  | none => rw [hl] at hv; cases hv
  | some x =>
    rw [hl] at hv
    simp only [Option.map_some, Option.some.injEq] at hv
    subst hv
    exact ⟨rfl, _, by rw [← Array.getElem?_toList]; exact h i x hl, .int _ _⟩
theorem rv_strs {E : Em} {l : List (List UInt8)} {ca : Array Value} (h : ∀ (i : Nat) x, l[i]? = some x → ∃ s : ByteArray, ca.toList[i]? = some (.string s) ∧ s.data.toList = x) :
    ∀ (i : Nat) v, (l.map fun x => AV.str (x.map (·.toNat)))[i]? = some v → v.flat = true ∧ ∃ u, ca[i]? = some u ∧ RV E v u := by
  intro i v hv
  rw [List.getElem?_map] at hv
  cases hl : l[i]? with
  | none => rw [hl] at hv; cases hv
  | some x =>
    rw [hl] at hv
    simp only [Option.map_some, Option.some.injEq] at hv
    subst hv
    obtain ⟨s, h1, h2⟩ := h i x hl
    exact ⟨rfl, _, by rw [← Array.getElem?_toList]; exact h1, .str _ _ (by rw [h2])⟩

/-- A variable's block. -/
theorem robj_glob {V : SV} {G g : Nat} {w : World} {l : List AV} {ca : Array Value} {ty : TypeId} {fz : Nat × Nat} (hg : g < G) (hw : w.heap[g]? = some (.cells ca ty fz))
    (h : ∀ (i : Nat) v, l[i]? = some v → v.flat = true ∧ ∃ u, ca[i]? = some u ∧ RV (emG V G w) v u) : RObj (emG V G w) w g (.cells (Tr.e.sets 0 l) true) := by
  refine ⟨⟨g, 0, ca.size⟩, ca, ty, fz, by simp [emG, hg, hw], hw, by simp, (fun h => by cases h), ?_⟩
  intro i v hv
  rw [get_sets, get_e, Nat.sub_zero] at hv
  split at hv
  · obtain ⟨h1, u, h2, h3⟩ := h i v hv
    refine ⟨(Array.getElem?_eq_some_iff.1 h2).1, h1, u, by simpa using h2, h3⟩
  · cases hv

/-- Where a run begins: nothing but listed variables is known. -/
theorem hs_start {G : Nat} {V : SV} {w : World} {m : Tr AObj} (h : ∀ b o, m.get b = some o → b < G ∧ o.wr = false ∧ RObj (emG V G w) w b o) : HS G V w (· < w.heap.size) (emG V G w) m.get m G w := by
  refine ⟨⟨fun b o hb => (h b o hb).2.2, ?_⟩, fun _ _ h => h, ?_, ?_, rfl, fun _ _ => rfl, ?_, fun _ h => h, Nat.le_refl _, rfl, rfl, rfl⟩
  · intro b b' o o' l l' hb hb' hl hl' he
    have h1 := (h b o hb).1
    have h2 := (h b' o' hb').1
    simp only [emG, h1, h2, if_true, Option.some.injEq] at hl hl'
    rw [← hl, ← hl'] at he
    exact he
  · intro b hb
    refine ⟨?_, trivial⟩
    simp only [emG]
    rw [if_neg (by omega)]
  · intro g hg
    exact ⟨_, by simp only [emG]; rw [if_pos hg]⟩
  · intro b o l hb hw _
    rw [(h b o hb).2.1] at hw
    cases hw

open Go.RowKit in
theorem below_of_hs {G : Nat} {V : SV} {w w' : World} {E : Em} {M : Nat → Option AObj} {m : Tr AObj} {nx : Nat} (h : HS G V w (· < w.heap.size) E M m nx w') : Below w.heap.size w w' :=
  ⟨h.os, h.tape, h.out, h.size, fun k hk => h.old k hk⟩

section
open Go.WideShapes Go.ChangeShapes Go.RowKit
variable {H : Type} {enc : TypeId × Value → H} {P : Program}
/-- What a row asks, where what was there is as it was. -/
theorem post_old {f : Func} {s : ChangeSpec} {apart fresh handsOn again : Bool} {W W' : World} {args : Array Value} {v : Value} {ds gs : List (DataW H)} {before pa pv : List MemPlace}
    (hW : DataW.Whole enc P f.params.toList s.vars apart W args.toList ds gs before)
    (hres : ∀ (b : Nat) (sp : Nat → Bool) (hd : Bool), DataW.TrodAll enc P W' b sp hd f.resultTypes.toList (v.resultList f.resultTypes.size) (s.fn H (ds ++ gs)).results [])
    (hargs : ∀ sp : Nat → Bool, (∀ p ∈ before, sp p.block = true) → DataW.TrodAll enc P W' 0 sp true f.params.toList args.toList (s.fn H (ds ++ gs)).args pa)
    (hvars : ∀ sp : Nat → Bool, (∀ p ∈ before, sp p.block = true) → DataW.TrodVars enc P W' sp s.vars (s.fn H (ds ++ gs)).vars pv)
    (hps : before = pa ++ pv) (hb : Below W.heap.size W W')
    (hok : ∀ (j : Nat) (t : TypeId) (r : Value), f.resultTypes[j]? = some t → (v.resultList f.resultTypes.size)[j]? = some r → Value.okWide P W' .any 0 t r) :
    s.post enc P f apart fresh handsOn again W args v W' := by
  have hlt : ∀ p ∈ before, p.block < W.heap.size := fun p hp => hW.lt p hp
  have hold : ∀ p ∈ before, (fun b => decide (b < W.heap.size)) p.block = true := fun p hp => by simpa using hlt p hp
  refine ⟨ds, gs, before, [], pa, pv, hW, hres _ _ _, hargs _ hold, hvars _ hold, World.keptBut_mono (fun p hp => ⟨hp, ?_⟩) (hb.frame (· ∈ before)), fun _ => ?_⟩
  · rw [hps, List.mem_append] at hp
    exact .inr hp
  · obtain ⟨_, _, _, _, _, hz, hn⟩ := hW
    refine ⟨hok, _, _, ([] ++ pa) ++ pv, ⟨[] ++ pa, pv, trodAll_append (hargs _ (fun _ _ => rfl)) (hres _ _ _), hvars _ (fun _ _ => rfl), rfl, ?_, ?_⟩, ?_⟩
    · intro b off hp
      have hin : MemPlace.cell b off ∈ before := by rw [hps]; simpa using hp
      rw [hb.frozen (hlt _ hin)]
      exact hz b off hin
    · intro ha
      have := hn ha
      rw [hps] at this
      simpa using this
    · intro p hp _
      rw [hps]
      simpa using hp
end
end Go.Ev
