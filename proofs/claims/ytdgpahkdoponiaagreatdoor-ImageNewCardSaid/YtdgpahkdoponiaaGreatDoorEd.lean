/- ImageNew answers true for every number of words, whatever lies in memory, where the listed package variables hold what the program's text lays in them. This text is a part of that proof. -/
import Derived.Test.YtdgpahkdoponiaaGreatDoorEc
namespace Go.Ev
set_option linter.unusedVariables false
set_option linter.unusedSimpArgs false

/-! Folds by the bare recursors. -/
noncomputable def lall {α : Type} (f : α → Bool) (l : List α) : Bool := List.rec (motive := fun _ => Bool) true (fun a _ r => match f a with | true => r | false => false) l
noncomputable def lfold {α β : Type} (f : β → α → β) (l : List α) : β → β := List.rec (motive := fun _ => β → β) (fun b => b) (fun a _ r b => r (f b a)) l

theorem lall_spec {α : Type} (f : α → Bool) (l : List α) : lall f l = true → ∀ a ∈ l, f a = true := by
  induction l with
  | nil => intro _ a h; cases h
  | cons x l ih =>
    intro h a ha
    have hx : f x = true := by
      cases hf : f x with
      | true => rfl
      | false =>
        have : (match f x with | true => lall f l | false => false) = true := h
        rw [hf] at this; cases this
    have hl : lall f l = true := by
      have : (match f x with | true => lall f l | false => false) = true := h
      rw [hx] at this; exact this
    rcases List.mem_cons.1 ha with rfl | h
    · exact hx
    · exact ih hl a h

theorem lfold_nil {α β : Type} (f : β → α → β) (b : β) : lfold f [] b = b := rfl
theorem lfold_cons {α β : Type} (f : β → α → β) (a : α) (l : List α) (b : β) : lfold f (a :: l) b = lfold f l (f b a) := rfl

/-! A region that draws its order: a plan. -/
structure POp where
  o : Oper
  i : Nat
  srcs : List (Tmp × Nat)
  bef : Nat
  lo : Nat
  hi : Nat
  kd : Nat

structure Plan where
  ops : Array Oper
  l : List POp
  /-- By index. -/
  tab : Tr POp
  /-- Who writes a temporary. -/
  wr : Tr Nat
  effs : List POp

/-- What an operation looks at. -/
def opTmps : List Operand → List Tmp
  | [] => []
  | .tmp t :: l => t :: opTmps l
  | _ :: l => opTmps l

noncomputable def looks (ops : List Oper) (o : Oper) : List Tmp :=
  match o.guard with
  | some (j, _) => (match ops[j]? with
    | some x => (match x.dst with | some d => d :: opTmps o.op.operands.toList | none => opTmps o.op.operands.toList)
    | none => opTmps o.op.operands.toList)
  | none => opTmps o.op.operands.toList

noncomputable def kdOf (T : Tr TI) (o : Op) : Nat :=
  match o with
  | .alloc _ | .box _ _ | .buildSlice _ _ _ | .makeSlice _ _ _ | .makeMap _ _ => 1
  | .convert s d _ => (match T.get s, T.get d with
    | some ts, some td => (match ts.u, td.u with | .string, .slice _ => 1 | _, _ => 0)
    | _, _ => 0)
  | .store _ _ _ | .mapUpdate _ _ _ _ | .insert _ _ _ _ | .defer _ => 2
  | .call ⟨.builtin .append, _, _⟩ => 2
  | .call ⟨.builtin .recover, _, _⟩ => 2
  | .call ⟨.builtin _, _, _⟩ => 0
  | .call _ => 2
  | _ => 0

def bindsA (e : Edge) : Bool := match e.ground with
  | .textOnly _ => false
  | .gcOnly _ => false
  | _ => true

noncomputable def befOf (tab : Tr POp) (es : List Edge) : Nat :=
  lfold (fun s e => match bindsA e with
    | true => (match tab.get e.on with | some x => s ||| 2 ^ e.on ||| x.bef | none => s)
    | false => s) es 0

noncomputable def wrOf (ops : List Oper) : Tr Nat := (lfold (fun (p : Tr Nat × Nat) o => match o.dst with | some d => (p.1.set d (some p.2), p.2 + 1) | none => (p.1, p.2 + 1)) ops (Tr.e, 0)).1

noncomputable def planOps (T : Tr TI) (ops : List Oper) : List POp × Tr POp :=
  let W := wrOf ops
  let r := lfold (fun (p : List POp × Tr POp × Nat × List Nat) o =>
    let bef := befOf p.2.1 o.after.toList
    let kd := kdOf T o.op
    let srcs := lfold (fun s t => match W.get t with
      | some j => (match bef.testBit j with | true => (t, j) :: s | false => s)
      | none => s) (looks ops o) []
    let lo := lfold (fun (n : Nat) e => match bef.testBit e with | true => n + 1 | false => n) p.2.2.2 0
    let x : POp := ⟨o, p.2.2.1, srcs, bef, lo, 0, kd⟩
    (x :: p.1, p.2.1.set p.2.2.1 (some x), p.2.2.1 + 1, match Nat.beq kd 2 with | true => p.2.2.1 :: p.2.2.2 | false => p.2.2.2)) ops ([], .e, 0, [])
  (r.1, r.2.1)

noncomputable def planHi (r : List POp) : List POp :=
  let effs := lfold (fun (s : List POp) x => match Nat.beq x.kd 2 with | true => x :: s | false => s) r []
  lfold (fun (p : List POp) x =>
    let hi := (lfold (fun (h : Nat × Bool) (e : POp) => match h.2 with
      | true => h
      | false => (match e.bef.testBit x.i with | true => (h.1, true) | false => (h.1 + 1, false))) effs (0, false)).1
    ⟨x.o, x.i, x.srcs, x.bef, x.lo, hi, x.kd⟩ :: p) r []

/-- Operations with what was found out about them. -/
noncomputable def zipOps (ops : List Oper) : List POp → Nat → List POp :=
  List.rec (motive := fun _ => List POp → Nat → List POp) (fun _ _ => [])
    (fun o _ r ms k => List.rec (motive := fun _ => List POp) [] (fun x ms _ => ⟨o, k, x.srcs, x.bef, x.lo, x.hi, x.kd⟩ :: r ms (k + 1)) ms) ops

theorem zipOps_cons (o : Oper) (ops : List Oper) (x : POp) (ms : List POp) (k : Nat) : zipOps (o :: ops) (x :: ms) k = ⟨o, k, x.srcs, x.bef, x.lo, x.hi, x.kd⟩ :: zipOps ops ms (k + 1) := rfl
theorem zipOps_nil (ms : List POp) (k : Nat) : zipOps [] ms k = [] := rfl
theorem zipOps_nil' (ops : List Oper) (k : Nat) : zipOps ops [] k = [] := by cases ops <;> rfl

theorem zipOps_spec : ∀ (ops : List Oper) (ms : List POp) (k i : Nat) (x : POp), (zipOps ops ms k)[i]? = some x → x.i = k + i ∧ ops[i]? = some x.o
  | [], ms, k, i, x, h => by rw [zipOps_nil] at h; cases h
  | o :: ops, [], k, i, x, h => by rw [zipOps_nil'] at h; cases h
  | o :: ops, m :: ms, k, 0, x, h => by
    rw [zipOps_cons] at h
    simp only [List.getElem?_cons_zero, Option.some.injEq] at h
    subst h
    exact ⟨rfl, rfl⟩
  | o :: ops, m :: ms, k, i + 1, x, h => by
    rw [zipOps_cons] at h
    simp only [List.getElem?_cons_succ] at h
    obtain ⟨h1, h2⟩ := zipOps_spec ops ms (k + 1) i x h
    exact ⟨by omega, by simpa using h2⟩

noncomputable def lfil (l : List POp) : List POp := List.rec (motive := fun _ => List POp) [] (fun x _ r => match Nat.beq x.kd 2 with | true => x :: r | false => r) l

theorem lfil_spec (l : List POp) : lfil l = l.filter fun x => Nat.beq x.kd 2 := by
  induction l with
  | nil => rfl
  | cons x l ih =>
    have : lfil (x :: l) = match Nat.beq x.kd 2 with | true => x :: lfil l | false => lfil l := rfl
    rw [this, ih, List.filter_cons]
    cases Nat.beq x.kd 2 <;> rfl

noncomputable def ckSrcs (pl : Plan) (x : POp) : Bool :=
  lall (fun t => match pl.wr.get t with
    | none => true
    | some j => (match x.bef.testBit j with
      | true => !(lall (fun s => !(Nat.beq s.1 t && Nat.beq s.2 j)) x.srcs)
      | false => (match Nat.beq j x.i with
        | true => true
        | false => (match pl.tab.get j with | some y => y.bef.testBit x.i | none => false)))) (looks pl.ops.toList x.o) &&
  lall (fun s => match x.bef.testBit s.2, pl.tab.get s.2 with
    | true, some y => (match y.o.dst with | some d => Nat.beq d s.1 | none => false)
    | _, _ => false) x.srcs

noncomputable def ckOp (pl : Plan) (x : POp) : Bool :=
  Nat.beq x.bef (befOf pl.tab x.o.after.toList) &&
  lall (fun e => match bindsA e with | true => Nat.blt e.on x.i | false => true) x.o.after.toList &&
  ckSrcs pl x &&
  (match x.lo with | 0 => true | q + 1 => (match pl.effs[q]? with | some e => x.bef.testBit e.i | none => false)) &&
  (match pl.effs[x.hi]? with | some e => e.bef.testBit x.i | none => true) &&
  (match x.o.dst with | some d => (match pl.wr.get d with | some j => Nat.beq j x.i | none => false) | none => true)

noncomputable def ckChain (l : List POp) : Bool :=
  List.rec (motive := fun _ => Bool) true (fun x l r => List.rec (motive := fun _ => Bool) true (fun y _ _ => match y.bef.testBit x.i with | true => r | false => false) l) l

theorem ckChain_cons (x y : POp) (l : List POp) : ckChain (x :: y :: l) = match y.bef.testBit x.i with | true => ckChain (y :: l) | false => false := rfl

noncomputable def planOf (T : Tr TI) (ops : Array Oper) : Option Plan :=
  let l := zipOps ops.toList (planHi (planOps T ops.toList).1) 0
  let pl : Plan := ⟨ops, l, Tr.e.sets 0 l, wrOf ops.toList, lfil l⟩
  match Nat.beq l.length ops.toList.length, lall (ckOp pl) l, ckChain pl.effs with
  | true, true, true => some pl
  | _, _, _ => none

/-! What a plan promises. -/
structure PlanOk (ops : Array Oper) (pl : Plan) : Prop where
  opsEq : pl.ops = ops
  len : pl.l.length = ops.size
  tab : ∀ i, pl.tab.get i = pl.l[i]?
  at_ : ∀ (i : Nat) (x : POp), pl.l[i]? = some x → x.i = i ∧ ops[i]? = some x.o
  effsEq : pl.effs = pl.l.filter fun x => Nat.beq x.kd 2
  ck : ∀ x ∈ pl.l, ckOp pl x = true
  chain : ckChain pl.effs = true

theorem planOf_ok {T : Tr TI} {ops : Array Oper} {pl : Plan} (h : planOf T ops = some pl) : PlanOk ops pl := by
  unfold planOf at h
  simp only at h
  split at h
  · rename_i h1 h2 h3
    injection h with h
    subst h
    refine ⟨rfl, by simpa using Nat.eq_of_beq_eq_true h1, ?_, ?_, lfil_spec _, lall_spec _ _ h2, h3⟩
    · intro i
      simp only [get_sets, get_e, Nat.sub_zero]
      split
      · rfl
      · rename_i hn
        symm
        rw [List.getElem?_eq_none_iff]
        omega
    · intro i x hx
      obtain ⟨h4, h5⟩ := zipOps_spec _ _ _ _ _ hx
      exact ⟨by omega, by simpa using h5⟩
  · cases h

section plan
variable {ops : Array Oper} {pl : Plan} (hp : PlanOk ops pl)
include hp

theorem PlanOk.get {i : Nat} (h : i < ops.size) : ∃ x, pl.l[i]? = some x ∧ pl.tab.get i = some x ∧ x ∈ pl.l ∧ x.i = i ∧ ops[i]? = some x.o := by
  have hl : i < pl.l.length := by rw [hp.len]; exact h
  obtain ⟨h1, h2⟩ := hp.at_ i pl.l[i] (List.getElem?_eq_getElem hl)
  exact ⟨_, List.getElem?_eq_getElem hl, by rw [hp.tab, List.getElem?_eq_getElem hl], List.getElem_mem hl, h1, h2⟩

theorem PlanOk.mem {x : POp} (h : x ∈ pl.l) : pl.l[x.i]? = some x ∧ pl.tab.get x.i = some x ∧ ops[x.i]? = some x.o ∧ x.i < ops.size := by
  obtain ⟨i, hi⟩ := List.getElem?_of_mem h
  obtain ⟨h1, h2⟩ := hp.at_ i x hi
  subst h1
  exact ⟨hi, by rw [hp.tab, hi], h2, (Array.getElem?_eq_some_iff.1 h2).1⟩
end plan

theorem binds_any (e : Edge) : Region.binds .any e = bindsA e := by
  unfold Region.binds bindsA
  cases e.ground <;> rfl

theorem befOf_spec (tab : Tr POp) (j : Nat) : ∀ (es : List Edge), (befOf tab es).testBit j = true ↔ ∃ e ∈ es, bindsA e = true ∧ ∃ x, tab.get e.on = some x ∧ (j = e.on ∨ x.bef.testBit j = true) := by
  have gen : ∀ (es : List Edge) (s : Nat), (lfold (fun s e => match bindsA e with
    | true => (match tab.get e.on with | some x => s ||| 2 ^ e.on ||| x.bef | none => s)
    | false => s) es s).testBit j = true ↔ s.testBit j = true ∨ ∃ e ∈ es, bindsA e = true ∧ ∃ x, tab.get e.on = some x ∧ (j = e.on ∨ x.bef.testBit j = true) := by
    intro es
    induction es with
    | nil => intro s; simp [lfold_nil]
    | cons e es ih =>
      intro s
      rw [lfold_cons, ih]
      cases hb : bindsA e with
      | false => simp [hb]
      | true =>
        cases ht : tab.get e.on with
        | none => simp [hb, ht]
        | some x =>
          simp only [Nat.testBit_or, Bool.or_eq_true, Nat.testBit_two_pow, decide_eq_true_eq, List.mem_cons, exists_eq_or_imp, hb, ht, Option.some.injEq, exists_eq_left', true_and]
          rw [or_assoc, or_assoc, eq_comm (a := e.on), or_assoc]
  intro es
  have := gen es 0
  simpa [befOf] using this

theorem ckOp_spec {pl : Plan} {x : POp} (h : ckOp pl x = true) :
    x.bef = befOf pl.tab x.o.after.toList ∧ (∀ e ∈ x.o.after.toList, bindsA e = true → e.on < x.i) ∧ ckSrcs pl x = true ∧
    (∀ q, x.lo = q + 1 → ∃ e, pl.effs[q]? = some e ∧ x.bef.testBit e.i = true) ∧ (∀ e, pl.effs[x.hi]? = some e → e.bef.testBit x.i = true) ∧
    (∀ d, x.o.dst = some d → pl.wr.get d = some x.i) := by
  unfold ckOp at h
  simp only [Bool.and_eq_true] at h
  obtain ⟨⟨⟨⟨⟨h1, h2⟩, h3⟩, h4⟩, h5⟩, h6⟩ := h
  refine ⟨Nat.eq_of_beq_eq_true h1, ?_, h3, ?_, ?_, ?_⟩
  · intro e he hb
    have := lall_spec _ _ h2 e he
    simp only [hb] at this
    exact Nat.le_of_ble_eq_true this
  · intro q hq
    rw [hq] at h4
    simp only at h4
    split at h4
    · rename_i e he; exact ⟨e, he, h4⟩
    · cases h4
  · intro e he
    rw [he] at h5
    exact h5
  · intro d hd
    rw [hd] at h6
    simp only at h6
    split at h6
    · rename_i j hj
      rw [hj, Nat.eq_of_beq_eq_true h6]
    · cases h6

theorem ckSrcs_spec {pl : Plan} {x : POp} (h : ckSrcs pl x = true) :
    (∀ t ∈ looks pl.ops.toList x.o, ∀ j, pl.wr.get t = some j → (x.bef.testBit j = true ∧ (t, j) ∈ x.srcs) ∨ (x.bef.testBit j = false ∧ (j = x.i ∨ ∃ y, pl.tab.get j = some y ∧ y.bef.testBit x.i = true))) ∧
    (∀ s ∈ x.srcs, x.bef.testBit s.2 = true ∧ ∃ y, pl.tab.get s.2 = some y ∧ y.o.dst = some s.1) := by
  unfold ckSrcs at h
  rw [Bool.and_eq_true] at h
  constructor
  · intro t ht j hj
    have := lall_spec _ _ h.1 t ht
    simp only [hj] at this
    split at this
    · rename_i hb
      refine .inl ⟨hb, ?_⟩
      by_cases hm : (t, j) ∈ x.srcs
      · exact hm
      · exfalso
        rw [Bool.not_eq_true'] at this
        have hall : ∀ l : List (Tmp × Nat), (t, j) ∉ l → lall (fun s => !(Nat.beq s.1 t && Nat.beq s.2 j)) l = true := by
          intro l
          induction l with
          | nil => intro _; rfl
          | cons a l ih =>
            intro hn
            have ha : (!(Nat.beq a.1 t && Nat.beq a.2 j)) = true := by
              rw [Bool.not_eq_true', Bool.and_eq_false_iff]
              by_cases h1 : Nat.beq a.1 t = true
              · right
                by_cases h2 : Nat.beq a.2 j = true
                · exfalso
                  apply hn
                  have e1 := Nat.eq_of_beq_eq_true h1
                  have e2 := Nat.eq_of_beq_eq_true h2
                  rw [← e1, ← e2]
                  exact List.mem_cons_self
                · exact Bool.eq_false_iff.2 h2
              · left; exact Bool.eq_false_iff.2 h1
            show (match (!(Nat.beq a.1 t && Nat.beq a.2 j)) with | true => lall _ l | false => false) = true
            rw [ha]
            exact ih fun h => hn (List.mem_cons_of_mem _ h)
        rw [hall _ hm] at this
        cases this
    · rename_i hb
      refine .inr ⟨hb, ?_⟩
      split at this
      · rename_i hji; exact .inl (Nat.eq_of_beq_eq_true hji)
      · split at this
        · rename_i y hy; exact .inr ⟨y, hy, this⟩
        · cases this
  · intro s hs
    have := lall_spec _ _ h.2 s hs
    split at this
    · rename_i y hb hy
      refine ⟨hb, y, hy, ?_⟩
      split at this
      · rename_i d hd
        rw [hd, Nat.eq_of_beq_eq_true this]
      · cases this
    · cases this

section plan2
variable {ops : Array Oper} {pl : Plan} (hp : PlanOk ops pl)
include hp

/-- What must be done before, is done before in the text, and so on. -/
theorem PlanOk.below : ∀ (n : Nat) (x : POp), x ∈ pl.l → x.i < n → ∀ j, x.bef.testBit j = true → j < x.i ∧ ∃ y, y ∈ pl.l ∧ y.i = j ∧ ∀ j', y.bef.testBit j' = true → x.bef.testBit j' = true := by
  intro n
  induction n with
  | zero => intro x _ h; omega
  | succ n ih =>
    intro x hx hn j hj
    obtain ⟨hb, hlt, _⟩ := ckOp_spec (hp.ck x hx)
    rw [hb, befOf_spec] at hj
    obtain ⟨e, he, hbe, z, hz, hj⟩ := hj
    have hon := hlt e he hbe
    have hzm : z ∈ pl.l := by rw [hp.tab] at hz; exact List.mem_of_getElem? hz
    have hzi : z.i = e.on := by rw [hp.tab] at hz; exact (hp.at_ _ _ hz).1
    have up : ∀ j', z.bef.testBit j' = true → x.bef.testBit j' = true := fun j' h => by
      rw [hb, befOf_spec]; exact ⟨e, he, hbe, z, hz, .inr h⟩
    rcases hj with rfl | hj
    · exact ⟨hon, z, hzm, hzi, up⟩
    · obtain ⟨h1, y, h2, h3, h4⟩ := ih z hzm (by omega) j hj
      exact ⟨by omega, y, h2, h3, fun j' h => up j' (h4 j' h)⟩

theorem PlanOk.bel {x : POp} (hx : x ∈ pl.l) {j : Nat} (hj : x.bef.testBit j = true) : j < x.i ∧ ∃ y, y ∈ pl.l ∧ y.i = j ∧ ∀ j', y.bef.testBit j' = true → x.bef.testBit j' = true :=
  hp.below _ x hx (Nat.lt_succ_self _) j hj

theorem PlanOk.edge {x : POp} (hx : x ∈ pl.l) {e : Edge} (he : e ∈ x.o.after.toList) (hb : bindsA e = true) : e.on < x.i ∧ x.bef.testBit e.on = true := by
  obtain ⟨h1, h2, _⟩ := ckOp_spec (hp.ck x hx)
  have hlt := h2 e he hb
  obtain ⟨hm1, hm2, hm3, hm4⟩ := hp.mem hx
  obtain ⟨z, _, hz, _⟩ := hp.get (i := e.on) (by omega)
  refine ⟨hlt, ?_⟩
  rw [h1, befOf_spec]
  exact ⟨e, he, hb, z, hz, .inl rfl⟩

theorem PlanOk.cover {x : POp} (hx : x ∈ pl.l) {j : Nat} (hj : x.bef.testBit j = true) : ∃ e ∈ x.o.after.toList, bindsA e = true ∧ ∃ y ∈ pl.l, y.i = e.on ∧ (j = e.on ∨ y.bef.testBit j = true) := by
  obtain ⟨h1, _⟩ := ckOp_spec (hp.ck x hx)
  rw [h1, befOf_spec] at hj
  obtain ⟨e, he, hb, z, hz, hj⟩ := hj
  rw [hp.tab] at hz
  exact ⟨e, he, hb, z, List.mem_of_getElem? hz, (hp.at_ _ _ hz).1, hj⟩

theorem PlanOk.eff {x : POp} : x ∈ pl.effs ↔ x ∈ pl.l ∧ x.kd = 2 := by
  rw [hp.effsEq, List.mem_filter]
  simp

theorem PlanOk.chained : ∀ (q q' : Nat) (e e' : POp), pl.effs[q]? = some e → pl.effs[q']? = some e' → q < q' → e'.bef.testBit e.i = true := by
  have gen : ∀ (l : List POp), (∀ x ∈ l, x ∈ pl.l) → ckChain l = true → ∀ (q q' : Nat) (e e' : POp), l[q]? = some e → l[q']? = some e' → q < q' → e'.bef.testBit e.i = true := by
    intro l
    induction l with
    | nil => intro _ _ q q' e e' h; cases h
    | cons x l ih =>
      intro hm hc q q' e e' h h' hlt
      cases l with
      | nil =>
        cases q' with
        | zero => omega
        | succ q' => simp at h'
      | cons y l =>
        rw [ckChain_cons] at hc
        split at hc
        · rename_i hxy
          have ih' := ih (fun z hz => hm z (List.mem_cons_of_mem _ hz)) hc
          cases q' with
          | zero => omega
          | succ q' =>
            rw [List.getElem?_cons_succ] at h'
            cases q with
            | succ q =>
              rw [List.getElem?_cons_succ] at h
              exact ih' q q' e e' h h' (by omega)
            | zero =>
              rw [List.getElem?_cons_zero] at h
              injection h with h
              subst h
              cases q' with
              | zero =>
                rw [List.getElem?_cons_zero] at h'
                injection h' with h'
                subst h'
                exact hxy
              | succ q' =>
                have h1 := ih' 0 (q' + 1) y e' (by simp) h' (by omega)
                obtain ⟨_, z, hz, hzi, hz2⟩ := hp.bel (hm e' (List.mem_cons_of_mem _ (List.mem_of_getElem? h'))) h1
                have : z = y := by
                  have hy := hm y (by simp)
                  have a := (hp.mem hz).1
                  have b := (hp.mem hy).1
                  rw [hzi] at a
                  rw [b] at a
                  injection a with a
                  exact a.symm
                subst this
                exact hz2 _ hxy
        · cases hc
  exact gen pl.effs (fun x hx => (hp.eff.1 hx).1) hp.chain

theorem PlanOk.lo {x : POp} (hx : x ∈ pl.l) {q : Nat} (hq : q < x.lo) : ∃ e, pl.effs[q]? = some e ∧ x.bef.testBit e.i = true := by
  obtain ⟨_, _, _, h4, _⟩ := ckOp_spec (hp.ck x hx)
  obtain ⟨e, he, hb⟩ := h4 (x.lo - 1) (by omega)
  by_cases hqq : q = x.lo - 1
  · subst hqq; exact ⟨e, he, hb⟩
  · have hlen : q < pl.effs.length := by
      have := (List.getElem?_eq_some_iff.1 he).1
      omega
    refine ⟨pl.effs[q], List.getElem?_eq_getElem hlen, ?_⟩
    have hc := hp.chained q (x.lo - 1) _ e (List.getElem?_eq_getElem hlen) he (by omega)
    obtain ⟨_, z, hz, hzi, hz2⟩ := hp.bel hx hb
    have : z = e := by
      have a := (hp.mem hz).1
      have b := (hp.mem (hp.eff.1 (List.mem_of_getElem? he)).1).1
      rw [hzi, b] at a
      injection a with a
      exact a.symm
    subst this
    exact hz2 _ hc

theorem PlanOk.hi {x : POp} (hx : x ∈ pl.l) {p : Nat} (hpl : p ≤ pl.effs.length) (h : ∀ q e, q < p → pl.effs[q]? = some e → e.bef.testBit x.i = false) : p ≤ x.hi := by
  obtain ⟨_, _, _, _, h5, _⟩ := ckOp_spec (hp.ck x hx)
  rcases Nat.lt_or_ge x.hi p with hlt | hge
  · have hlen : x.hi < pl.effs.length := by omega
    have h1 := h5 _ (List.getElem?_eq_getElem hlen)
    have h2 := h x.hi _ hlt (List.getElem?_eq_getElem hlen)
    rw [h1] at h2; cases h2
  · exact hge

theorem PlanOk.wr {x : POp} (hx : x ∈ pl.l) {d : Tmp} (hd : x.o.dst = some d) : pl.wr.get d = some x.i := (ckOp_spec (hp.ck x hx)).2.2.2.2.2 d hd

theorem PlanOk.same {x y : POp} (hx : x ∈ pl.l) (hy : y ∈ pl.l) (h : x.i = y.i) : x = y := by
  have a := (hp.mem hx).1
  have b := (hp.mem hy).1
  rw [h, b] at a
  injection a with a
  exact a.symm

theorem PlanOk.one {x y : POp} (hx : x ∈ pl.l) (hy : y ∈ pl.l) {d : Tmp} (h1 : x.o.dst = some d) (h2 : y.o.dst = some d) : x = y := by
  have a := hp.wr hx h1
  have b := hp.wr hy h2
  rw [a] at b
  injection b with b
  exact hp.same hx hy b

theorem PlanOk.looked {x y : POp} (hx : x ∈ pl.l) (hy : y ∈ pl.l) {t : Tmp} (ht : t ∈ looks ops.toList x.o) (hd : y.o.dst = some t) :
    (x.bef.testBit y.i = true ∧ (t, y.i) ∈ x.srcs) ∨ (x.bef.testBit y.i = false ∧ (y = x ∨ y.bef.testBit x.i = true)) := by
  have h := (ckSrcs_spec (ckOp_spec (hp.ck x hx)).2.2.1).1 t (by rw [hp.opsEq]; exact ht) y.i (hp.wr hy hd)
  refine h.imp id fun ⟨h1, h2⟩ => ⟨h1, ?_⟩
  rcases h2 with h2 | ⟨z, hz, hb⟩
  · exact .inl (hp.same hy hx h2)
  · rw [(hp.mem hy).2.1] at hz
    injection hz with hz
    subst hz
    exact .inr hb

theorem PlanOk.src {x : POp} (hx : x ∈ pl.l) {s : Tmp × Nat} (hs : s ∈ x.srcs) : x.bef.testBit s.2 = true ∧ ∃ y, y ∈ pl.l ∧ y.i = s.2 ∧ y.o.dst = some s.1 := by
  obtain ⟨h1, y, h2, h3⟩ := (ckSrcs_spec (ckOp_spec (hp.ck x hx)).2.2.1).2 s hs
  rw [hp.tab] at h2
  exact ⟨h1, y, List.mem_of_getElem? h2, (hp.at_ _ _ h2).1, h3⟩
end plan2
end Go.Ev
namespace Go.Ev
set_option linter.unusedVariables false
set_option linter.unusedSimpArgs false

/-! The same functions in small pieces: what a kernel lays out when it unfolds one, is small. -/
noncomputable def eqInt (k : IntKind) (a : Int) (y : AV) : Option Bool :=
  match y with | .int k' b => (match Nat.beq (ik k) (ik k') with | true => some (eqI a b) | false => none) | _ => none
noncomputable def eqStr (a : List Nat) (y : AV) : Option Bool := match y with | .str b => some (eqL a b) | _ => none
noncomputable def eqBool (u : TypeDesc) (a : Bool) (y : AV) : Option Bool := match y with | .bool b => (match u with | .bool => some (a == b) | _ => none) | _ => none
noncomputable def eqP (u : TypeDesc) (r : Bool) : Option Bool := match u with | .pointer _ => some r | _ => none
noncomputable def eqS (u : TypeDesc) (r : Bool) : Option Bool := match u with | .slice _ => some r | _ => none
noncomputable def eqM (u : TypeDesc) (r : Bool) : Option Bool := match u with | .map _ _ => some r | _ => none
noncomputable def eqFn (u : TypeDesc) (r : Bool) : Option Bool := match u with | .func _ _ _ => some r | _ => none
noncomputable def eqIf (u : TypeDesc) : Option Bool := match u with | .interface _ => some false | _ => none
noncomputable def eqNilp (u : TypeDesc) (y : AV) : Option Bool := match y with | .nilp => eqP u true | .ptr _ _ => eqP u false | _ => none
noncomputable def eqPtr (u : TypeDesc) (y : AV) : Option Bool := match y with | .nilp => eqP u false | _ => none
noncomputable def eqNils (u : TypeDesc) (y : AV) : Option Bool := match y with | .nils => eqS u true | .sl _ _ _ _ _ => eqS u false | _ => none
noncomputable def eqSl (u : TypeDesc) (y : AV) : Option Bool := match y with | .nils => eqS u false | _ => none
noncomputable def eqNilm (u : TypeDesc) (y : AV) : Option Bool := match y with | .nilm => eqM u true | .map _ => eqM u false | _ => none
noncomputable def eqMap (u : TypeDesc) (y : AV) : Option Bool := match y with | .nilm => eqM u false | _ => none
noncomputable def eqNilf (u : TypeDesc) (y : AV) : Option Bool := match y with | .nilf => eqFn u true | .func _ _ _ => eqFn u false | _ => none
noncomputable def eqFunc (u : TypeDesc) (y : AV) : Option Bool := match y with | .nilf => eqFn u false | _ => none
noncomputable def eqNili (u : TypeDesc) (c : Bool) (y : AV) : Option Bool := match y with | .nili => (match c, u with | true, .interface _ => some true | _, _ => none) | .iface _ _ => eqIf u | _ => none
noncomputable def eqIface (u : TypeDesc) (y : AV) : Option Bool := match y with | .nili => eqIf u | _ => none
noncomputable def eqF (u : TypeDesc) (c : Bool) (x y : AV) : Option Bool :=
  match x with
  | .int k a => eqInt k a y
  | .str a => eqStr a y
  | .bool a => eqBool u a y
  | .nilp => eqNilp u y
  | .ptr _ _ => eqPtr u y
  | .nils => eqNils u y
  | .sl _ _ _ _ _ => eqSl u y
  | .nilm => eqNilm u y
  | .map _ => eqMap u y
  | .nilf => eqNilf u y
  | .func _ _ _ => eqFunc u y
  | .nili => eqNili u c y
  | .iface _ _ => eqIface u y
  | _ => none
theorem eqF_eq (u : TypeDesc) (c : Bool) (x y : AV) : eqF u c x y = eqA u c x y := by
  cases x <;> cases y <;> rfl

noncomputable def binEql (r : Option Bool) : Option AV := match r with | some b => some (.bool b) | none => none
noncomputable def binNeq (r : Option Bool) : Option AV := match r with | some b => some (.bool (!b)) | none => none
noncomputable def addInt (k : IntKind) (a : Int) (y : AV) : Option AV := match y with | .int k' b => same k k' (intR k (a + b)) | _ => none
noncomputable def addStr (a : List Nat) (y : AV) : Option AV := match y with | .str b => (match Nat.blt (a.length + b.length) 1000000000 with | true => some (.str (a ++ b)) | false => none) | _ => none
noncomputable def binAdd (x y : AV) : Option AV := match x with | .int k a => addInt k a y | .str a => addStr a y | _ => none
noncomputable def int2 (f : IntKind → Int → IntKind → Int → Option AV) (x y : AV) : Option AV := match x with
  | .int k a => (match y with | .int k' b => f k a k' b | _ => none)
  | _ => none
noncomputable def lssS (a : List Nat) (y : AV) : Option AV := match y with | .str b => some (.bool (ltL a b)) | _ => none
noncomputable def leqS (a : List Nat) (y : AV) : Option AV := match y with | .str b => some (.bool (ltL a b || eqL a b)) | _ => none
noncomputable def gtrS (a : List Nat) (y : AV) : Option AV := match y with | .str b => some (.bool (!(ltL a b || eqL a b))) | _ => none
noncomputable def geqS (a : List Nat) (y : AV) : Option AV := match y with | .str b => some (.bool (!ltL a b)) | _ => none
noncomputable def lssI (k : IntKind) (a : Int) (y : AV) : Option AV := match y with | .int k' b => same k k' (some (.bool (ltI a b))) | _ => none
noncomputable def leqI (k : IntKind) (a : Int) (y : AV) : Option AV := match y with | .int k' b => same k k' (some (.bool (!ltI b a))) | _ => none
noncomputable def gtrI (k : IntKind) (a : Int) (y : AV) : Option AV := match y with | .int k' b => same k k' (some (.bool (ltI b a))) | _ => none
noncomputable def geqI (k : IntKind) (a : Int) (y : AV) : Option AV := match y with | .int k' b => same k k' (some (.bool (!ltI a b))) | _ => none
noncomputable def binLss (x y : AV) : Option AV := match x with | .int k a => lssI k a y | .str a => lssS a y | _ => none
noncomputable def binLeq (x y : AV) : Option AV := match x with | .int k a => leqI k a y | .str a => leqS a y | _ => none
noncomputable def binGtr (x y : AV) : Option AV := match x with | .int k a => gtrI k a y | .str a => gtrS a y | _ => none
noncomputable def binGeq (x y : AV) : Option AV := match x with | .int k a => geqI k a y | .str a => geqS a y | _ => none
noncomputable def binSub (x y : AV) : Option AV := int2 (fun k a k' b => same k k' (intR k (a - b))) x y
noncomputable def binMul (x y : AV) : Option AV := int2 (fun k a k' b => same k k' (intR k (a * b))) x y
noncomputable def binQuo (x y : AV) : Option AV := int2 (fun k a k' b => same k k' (match eqI b 0 with | true => none | false => intR k (a.tdiv b))) x y
noncomputable def binRem (x y : AV) : Option AV := int2 (fun k a k' b => same k k' (match eqI b 0 with | true => none | false => force (a.tmod b) fun r => some (.int k r))) x y
noncomputable def binAnd (x y : AV) : Option AV := int2 (fun k a k' b => same k k' (bitsR k (fun n p q => p &&& q) a b)) x y
noncomputable def binOr (x y : AV) : Option AV := int2 (fun k a k' b => same k k' (bitsR k (fun n p q => p ||| q) a b)) x y
noncomputable def binXor (x y : AV) : Option AV := int2 (fun k a k' b => same k k' (bitsR k (fun n p q => p ^^^ q) a b)) x y
noncomputable def binAndNot (x y : AV) : Option AV := int2 (fun k a k' b => same k k' (bitsR k (fun n p q => p &&& ~~~q) a b)) x y
noncomputable def binShl (x y : AV) : Option AV := int2 (fun k a k' b => match ltI b 0 with | true => none | false => intR k (a * 2 ^ (Nat.min b.toNat k.bits))) x y
noncomputable def binShr (x y : AV) : Option AV := int2 (fun k a k' b => match ltI b 0 with | true => none | false => force (a.fdiv (2 ^ (Nat.min b.toNat k.bits))) fun r => some (.int k r)) x y
noncomputable def binF (u : TypeDesc) (c : Bool) (op : BinOp) (x y : AV) : Option AV :=
  match op with
  | .eql => binEql (eqF u c x y)
  | .neq => binNeq (eqF u c x y)
  | .add => binAdd x y
  | .sub => binSub x y
  | .mul => binMul x y
  | .quo => binQuo x y
  | .rem => binRem x y
  | .and => binAnd x y
  | .or => binOr x y
  | .xor => binXor x y
  | .andNot => binAndNot x y
  | .shl => binShl x y
  | .shr => binShr x y
  | .lss => binLss x y
  | .leq => binLeq x y
  | .gtr => binGtr x y
  | .geq => binGeq x y
theorem binF_eq (u : TypeDesc) (c : Bool) (op : BinOp) (x y : AV) : binF u c op x y = binA u c op x y := by
  cases op
  case eql => show binEql (eqF u c x y) = _; rw [eqF_eq]; rfl
  case neq => show binNeq (eqF u c x y) = _; rw [eqF_eq]; rfl
  all_goals (cases x <;> try rfl)
  all_goals (cases y <;> rfl)

noncomputable def qPick (c a b : AV) : Option AV := match c with | .bool true => some a | .bool false => some b | _ => none
noncomputable def qNil (x : AV) : Option AV := match x with | .ptr b off => some (.ptr b off) | .func f x y => some (.func f x y) | .iface d v => some (.iface d v) | _ => none
noncomputable def qBin (r : Option TI) (c : Bool) (op : BinOp) (x y : AV) : Option AV := match r with | some ti => binF ti.u c op x y | none => none
noncomputable def qConv (T : Tr TI) (r r' : Option TI) (x : AV) (m : Tr AObj) : Option AV := match r with
  | some ts => (match r' with | some td => convA T ts td x m | none => none)
  | none => none
noncomputable def qMkI (r : Option TI) (xt : TypeId) (x : AV) : Option AV := match r with | some ti => (match ti.u with | .interface _ => none | _ => some (.iface xt x)) | none => none
noncomputable def qMkF (f : Fn) (x y : List AV) : Option AV := match f with | .func f => some (.func f x y) | _ => none
noncomputable def qBuild (T : Tr TI) (r : Option TI) (l : List (Nat × AV)) : Option AV := match r with | some ti => (match zAgg ti with | true => buildA T ti l | false => none) | none => none
noncomputable def qTI (f : TI → Option AV) (r : Option TI) : Option AV := match r with | some ti => f ti | none => none
noncomputable def qCall (G : Nat) (T : Tr TI) (t : Tr AV) (m : Tr AObj) (c : Call) : Option AV := match c with
  | ⟨.builtin b, args, ts⟩ => builtinA T m b ts (evs G t args.toList)
  | _ => none
noncomputable def qopF (G : Nat) (T : Tr TI) (t : Tr AV) (m : Tr AObj) (o : Op) : Option AV :=
  match o with
  | .move x => some (evo G t x)
  | .assign x => some (evo G t x)
  | .pick c a b => qPick (evo G t c) (evo G t a) (evo G t b)
  | .nilCheck x => qNil (evo G t x)
  | .binOp op xt x y _ => qBin (T.get xt) (isC x || isC y) op (evo G t x) (evo G t y)
  | .unOp op _ x => unA op (evo G t x)
  | .convert s d x => qConv T (T.get s) (T.get d) (evo G t x) m
  | .makeInterface xt x => qMkI (T.get xt) xt (evo G t x)
  | .makeFunc f first captured => qMkF f (evs G t first.toList) (evs G t captured.toList)
  | .build xt ps => qBuild T (T.get xt) (evp G t ps.toList)
  | .field xt x f => qTI (fun ti => fieldA T ti (evo G t x) f) (T.get xt)
  | .index xt x i => qTI (fun ti => indexA T ti (evo G t x) (evo G t i)) (T.get xt)
  | .extract x i => extractA (evo G t x) i
  | .fieldAddr xt x f => qTI (fun ti => fieldAddrA T ti (evo G t x) f) (T.get xt)
  | .indexAddr xt x i => qTI (fun ti => indexAddrA T ti (evo G t x) (evo G t i)) (T.get xt)
  | .slice xt x lo hi mx => qTI (fun ti => sliceA T m ti (evo G t x) (evq G t lo) (evq G t hi) (evq G t mx)) (T.get xt)
  | .load xt a => qTI (fun ti => loadA ti m (evo G t a)) (T.get xt)
  | .lookup xt x k ok => qTI (fun ti => lookupA T m ti (evo G t x) (evo G t k) ok) (T.get xt)
  | .typeAssert x _ at_ ok => qTI (fun ti => assertA T at_ ti ok (evo G t x)) (T.get at_)
  | .call c => qCall G T t m c
  | _ => none
theorem qopF_eq (G : Nat) (T : Tr TI) (t : Tr AV) (m : Tr AObj) (o : Op) : qopF G T t m o = qop G T t m o := by
  cases o <;> try rfl
  case binOp op xt x y _ =>
    show qBin (T.get xt) (isC x || isC y) op (evo G t x) (evo G t y) = _
    simp only [qBin, binF_eq, qop]
    cases T.get xt <;> rfl
  case convert s d x =>
    show qConv T (T.get s) (T.get d) (evo G t x) m = _
    simp only [qConv, qop]
    cases T.get s <;> cases T.get d <;> rfl
  case makeFunc f first captured => cases f <;> rfl
  case call c =>
    obtain ⟨callee, args, ts⟩ := c
    cases callee <;> rfl

/-! The same for what has an effect. -/
noncomputable def eSto (ti : Option TI) (m : Tr AObj) (nx : Nat) (a x : AV) : Option (AV × Tr AObj × Nat) := match ti with
  | some ti => (match storeA ti m a x with | some m' => some (.tup [], m', nx) | none => none)
  | none => none
noncomputable def eMap (T : Tr TI) (ti : Option TI) (m : Tr AObj) (nx : Nat) (a k x : AV) : Option (AV × Tr AObj × Nat) := match ti with
  | some ti => (match mapUpdA T m ti a k x with | some m' => some (.tup [], m', nx) | none => none)
  | none => none
noncomputable def eNew (m : Tr AObj) (nx : Nat) (r : Option (AV × AObj)) : Option (AV × Tr AObj × Nat) := match r with
  | some (v, ob) => some (v, m.set nx (some ob), nx + 1)
  | none => none
noncomputable def aAlloc (r : Option TI) (id : Nat) : Option (AV × AObj) := match r with
  | some ti => (match zcells ti with | some l => boxA id l | none => none)
  | none => none
noncomputable def aConv (T : Tr TI) (s d : Option TI) (x : AV) (id : Nat) : Option (AV × AObj) := match s with
  | some _ => (match d with
    | some td => (match x with
      | .str l => (match td.u with
        | .slice e => (match isU8 T e with
          | true => some (.sl id 0 l.length none 1, .cells (Tr.e.sets 0 (l.map fun n => AV.int .u8 (.ofNat n))) false)
          | false => none)
        | _ => none)
      | _ => none)
    | none => none)
  | none => none
noncomputable def aopF (G : Nat) (T : Tr TI) (t : Tr AV) (id : Nat) (o : Op) : Option (AV × AObj) :=
  match o with
  | .alloc e => aAlloc (T.get e) id
  | .box _ x => boxA id (evo G t x).cells
  | .buildSlice bt len ps => aop G T t id (.buildSlice bt len ps)
  | .makeSlice st l c => aop G T t id (.makeSlice st l c)
  | .makeMap mt x => aop G T t id (.makeMap mt x)
  | .convert s d x => aConv T (T.get s) (T.get d) (evo G t x) id
  | _ => none
theorem aopF_eq (G : Nat) (T : Tr TI) (t : Tr AV) (id : Nat) (o : Op) : aopF G T t id o = aop G T t id o := by
  cases o <;> try rfl
  case convert s d x =>
    show aConv T (T.get s) (T.get d) (evo G t x) id = _
    have : aop G T t id (.convert s d x) = (match T.get s, T.get d, evo G t x with
      | some _, some td, .str l => (match td.u with
        | .slice e => (match isU8 T e with
          | true => some (.sl id 0 l.length none 1, .cells (Tr.e.sets 0 (l.map fun n => AV.int .u8 (.ofNat n))) false)
          | false => none)
        | _ => none)
      | _, _, _ => none) := rfl
    rw [this]
    unfold aConv
    cases T.get s <;> cases T.get d <;> cases evo G t x <;> rfl
noncomputable def eopF (G : Nat) (T : Tr TI) (t : Tr AV) (m : Tr AObj) (nx : Nat) (o : Op) : Option (AV × Tr AObj × Nat) :=
  match o with
  | .store xt a x => eSto (T.get xt) m nx (evo G t a) (evo G t x)
  | .mapUpdate xt a k x => eMap T (T.get xt) m nx (evo G t a) (evo G t k) (evo G t x)
  | .insert xt a k x => eMap T (T.get xt) m nx (evo G t a) (evo G t k) (evo G t x)
  | .call c => eop G T t m nx (.call c)
  | o => eNew m nx (aopF G T t nx o)
theorem eopF_eq (G : Nat) (T : Tr TI) (t : Tr AV) (m : Tr AObj) (nx : Nat) (o : Op) : eopF G T t m nx o = eop G T t m nx o := by
  cases o <;> try rfl
  all_goals (show eNew m nx (aopF G T t nx _) = _; rw [aopF_eq]; rfl)
end Go.Ev
namespace Go.Ev
set_option linter.unusedVariables false
set_option linter.unusedSimpArgs false

/-! Operations on numbers of which an interval is known. -/
noncomputable def sameEF (r : SE → SE → Bool) (a b : SE) : Bool :=
  match a, b with
  | .slen e, .slen f => Nat.beq e f
  | .num n, .num m => eqI n m
  | .app f x, .app g y => (match Nat.beq f g with | true => r x y | false => false)
  | .nil, .nil => true
  | .cons a b, .cons c d => (match r a c with | true => r b d | false => false)
  | .add a b, .add c d => (match r a c with | true => r b d | false => false)
  | .sub a b, .sub c d => (match r a c with | true => r b d | false => false)
  | .shl a n, .shl c m => (match Nat.beq n m with | true => r a c | false => false)
  | .shr a n, .shr c m => (match Nat.beq n m with | true => r a c | false => false)
  | .or n a b, .or m c d => (match Nat.beq n m with | true => (match r a c with | true => r b d | false => false) | false => false)
  | .cv k a, .cv k' c => (match Nat.beq (ik k) (ik k') with | true => r a c | false => false)
  | _, _ => false
noncomputable def sameE (n : Nat) : SE → SE → Bool := Nat.rec (motive := fun _ => SE → SE → Bool) (fun _ _ => false) (fun _ r a b => sameEF r a b) n

theorem sameE_eq : ∀ (n : Nat) (a b : SE), sameE n a b = true → a = b := by
  intro n
  induction n with
  | zero => intro a b h; cases h
  | succ n ih =>
    intro a b h
    have hs : sameE (n + 1) a b = sameEF (sameE n) a b := rfl
    rw [hs] at h
    unfold sameEF at h
    have be : ∀ {x y : Nat}, Nat.beq x y = true → x = y := fun h => Nat.eq_of_beq_eq_true h
    have ei : ∀ {x y : Int}, eqI x y = true → x = y := fun h => by rw [eqI_eq, beq_iff_eq] at h; exact h
    split at h
    · rw [be h]
    · rw [ei h]
    · split at h
      · rename_i h1; rw [be h1, ih _ _ h]
      · cases h
    · rfl
    · split at h
      · rename_i h1; rw [ih _ _ h1, ih _ _ h]
      · cases h
    · split at h
      · rename_i h1; rw [ih _ _ h1, ih _ _ h]
      · cases h
    · split at h
      · rename_i h1; rw [ih _ _ h1, ih _ _ h]
      · cases h
    · split at h
      · rename_i h1; rw [be h1, ih _ _ h]
      · cases h
    · split at h
      · rename_i h1; rw [be h1, ih _ _ h]
      · cases h
    · split at h
      · rename_i h1
        split at h
        · rename_i h2; rw [be h1, ih _ _ h2, ih _ _ h]
        · cases h
      · cases h
    · split at h
      · rename_i h1; rw [ik_inj h1, ih _ _ h]
      · cases h
    · cases h

structure Iv where
  k : IntKind
  lo : Int
  hi : Int
  e : SE

noncomputable def ivl (x : AV) : Option Iv :=
  match x with
  | .int k n => some ⟨k, n, n, .num n⟩
  | .unk k lo hi e => some ⟨k, lo, hi, e⟩
  | _ => none
theorem ivl_sound {E : Em} {x : AV} {a : Value} {i : Iv} (h : ivl x = some i) (hx : RV E x a) : ∃ n, a = .int i.k n ∧ i.lo ≤ n ∧ n ≤ i.hi ∧ (i.e.ev E.v).1 = n := by
  unfold ivl at h
  split at h
  · injection h with h; subst h; cases hx; exact ⟨_, rfl, Int.le_refl _, Int.le_refl _, rfl⟩
  · injection h with h; subst h
    cases hx with
    | unk k lo hi e n a b c => exact ⟨n, rfl, b, c, a⟩
  · cases h

/-- Does an interval lie within a kind's numbers? -/
def inK (k : IntKind) (lo hi : Int) : Bool :=
  match ltI hi (.ofNat (lim k)) with
  | true => (match k.signed with
    | true => !ltI lo (-(.ofNat (lim k)))
    | false => !ltI lo 0)
  | false => false
theorem inK_wrap {k : IntKind} {lo hi n : Int} (h : inK k lo hi = true) (h1 : lo ≤ n) (h2 : n ≤ hi) : k.wrap n = n := by
  unfold inK at h
  split at h
  · rename_i hh
    rw [ltI_eq, decide_eq_true_eq] at hh
    rw [← wrapF_eq]
    split at h
    · rename_i hs
      simp only [ltI_eq, Bool.not_eq_true', decide_eq_false_iff_not, Int.not_lt] at h
      unfold wrapF
      cases n with
      | ofNat a =>
        simp only
        have : Nat.blt a (lim k) = true := Nat.ble_eq_true_of_le (by
          have h9 : (Int.ofNat a) < Int.ofNat (lim k) := by omega
          have h8 : a < lim k := by simpa using h9
          exact h8)
        rw [this]
      | negSucc a =>
        simp only
        by_cases he : a < lim k
        · have : Nat.blt a (lim k) = true := Nat.ble_eq_true_of_le he
          rw [hs, this]; rfl
        · exfalso
          have : Int.negSucc a = -(Int.ofNat a) - 1 := by simp [Int.negSucc_eq]; omega
          have h3 : -(Int.ofNat (lim k)) ≤ Int.negSucc a := by omega
          rw [this] at h3
          have : Int.ofNat (lim k) ≤ Int.ofNat a := by simp; omega
          omega
    · rename_i hs
      simp only [ltI_eq, Bool.not_eq_true', decide_eq_false_iff_not, Int.not_lt] at h
      unfold wrapF
      cases n with
      | ofNat a =>
        simp only
        have : Nat.blt a (lim k) = true := Nat.ble_eq_true_of_le (by
          have h9 : (Int.ofNat a) < Int.ofNat (lim k) := by omega
          have h8 : a < lim k := by simpa using h9
          exact h8)
        rw [this]
      | negSucc a =>
        exfalso
        have := Int.negSucc_lt_zero a
        omega
  · cases h

noncomputable def mkU (k : IntKind) (lo hi : Int) (e : SE) : Option AV := match inK k lo hi with | true => some (.unk k lo hi e) | false => none
theorem mkU_sound {E : Em} {k : IntKind} {lo hi n : Int} {e : SE} {v : AV} (h : mkU k lo hi e = some v) (h1 : lo ≤ n) (h2 : n ≤ hi) (h3 : (e.ev E.v).1 = n) : RV E v (.int k (k.wrap n)) := by
  unfold mkU at h
  split at h
  · rename_i hk
    injection h with h
    subst h
    rw [inK_wrap hk h1 h2]
    exact .unk _ _ _ _ _ h3 h1 h2
  · cases h

noncomputable def someB (b : Bool) : Option AV := some (.bool b)
noncomputable def ltU (i j : Iv) : Option Bool := match ltI i.hi j.lo with
  | true => some true
  | false => (match ltI i.lo j.hi with | true => none | false => some false)
noncomputable def eqU (i j : Iv) : Option Bool := match ltI i.hi j.lo with
  | true => some false
  | false => (match ltI j.hi i.lo with
    | true => some false
    | false => (match sameE 4000 i.e j.e with | true => some true | false => none))
theorem ltU_sound {i j : Iv} {n m : Int} {b : Bool} (h : ltU i j = some b) (h1 : i.lo ≤ n) (h2 : n ≤ i.hi) (h3 : j.lo ≤ m) (h4 : m ≤ j.hi) : decide (n < m) = b := by
  unfold ltU at h
  simp only [ltI_eq] at h
  split at h
  · rename_i hh; rw [decide_eq_true_eq] at hh; injection h with h; subst h; rw [decide_eq_true_eq]; omega
  · split at h
    · cases h
    · rename_i hh; rw [decide_eq_false_iff_not] at hh; injection h with h; subst h; rw [decide_eq_false_iff_not]; omega
theorem eqU_sound {V : SV} {i j : Iv} {n m : Int} {b : Bool} (h : eqU i j = some b) (h1 : i.lo ≤ n) (h2 : n ≤ i.hi) (h3 : j.lo ≤ m) (h4 : m ≤ j.hi) (h5 : (i.e.ev V).1 = n) (h6 : (j.e.ev V).1 = m) : (n == m) = b := by
  unfold eqU at h
  simp only [ltI_eq] at h
  split at h
  · rename_i hh; rw [decide_eq_true_eq] at hh; injection h with h; subst h; rw [beq_eq_false_iff_ne]; omega
  · split at h
    · rename_i hh; rw [decide_eq_true_eq] at hh; injection h with h; subst h; rw [beq_eq_false_iff_ne]; omega
    · split at h
      · rename_i hh; injection h with h; subst h; rw [beq_iff_eq]
        have := sameE_eq _ _ _ hh
        rw [← h5, ← h6, this]
      · cases h

noncomputable def bU (neg : Bool) (r : Option Bool) : Option AV := match r with | some b => some (.bool (match neg with | true => !b | false => b)) | none => none

/-- Two numbers, one of them not known. -/
noncomputable def arU (op : BinOp) (i j : Iv) : Option AV :=
  match op with
  | .eql => bU false (eqU i j)
  | .neq => bU true (eqU i j)
  | .lss => bU false (ltU i j)
  | .geq => bU true (ltU i j)
  | .gtr => bU false (ltU j i)
  | .leq => bU true (ltU j i)
  | .add => force (i.lo + j.lo) fun lo => force (i.hi + j.hi) fun hi => mkU i.k lo hi (.add i.e j.e)
  | .sub => force (i.lo - j.hi) fun lo => force (i.hi - j.lo) fun hi => mkU i.k lo hi (.sub i.e j.e)
  | .or => (match ltI i.lo 0, ltI j.lo 0 with
    | false, false => force (i.hi + j.hi) fun hi => mkU i.k (match ltI i.lo j.lo with | true => j.lo | false => i.lo) hi (.or i.k.bits i.e j.e)
    | _, _ => none)
  | _ => none
noncomputable def shU (op : BinOp) (i : Iv) (c : Nat) : Option AV :=
  match op with
  | .shl => (match ltI i.lo 0 with
    | false => force (i.lo * 2 ^ c) fun lo => force (i.hi * 2 ^ c) fun hi => mkU i.k lo hi (.shl i.e c)
    | true => none)
  | .shr => force (i.lo.fdiv (2 ^ c)) fun lo => force (i.hi.fdiv (2 ^ c)) fun hi => some (.unk i.k lo hi (.shr i.e c))
  | _ => none
noncomputable def binU (op : BinOp) (x y : AV) : Option AV :=
  match ivl x, ivl y with
  | some i, some j => (match op with
    | .shl => (match y with | .int _ b => (match ltI b 0 with | true => none | false => shU .shl i (Nat.min b.toNat i.k.bits)) | _ => none)
    | .shr => (match y with | .int _ b => (match ltI b 0 with | true => none | false => shU .shr i (Nat.min b.toNat i.k.bits)) | _ => none)
    | op => same i.k j.k (arU op i j))
  | _, _ => none

theorem nat_or_le (a b : Nat) : a ||| b ≤ a + b := by
  induction a using Nat.strongRecOn generalizing b with
  | _ a ih =>
    by_cases ha : a = 0
    · subst ha; simp
    · have h1 := ih (a / 2) (by omega) (b / 2)
      have h2 : (a ||| b) / 2 = a / 2 ||| b / 2 := Nat.or_div_two
      have h3 : (a ||| b) % 2 ≤ a % 2 + b % 2 := by
        have := Nat.or_mod_two_eq_one (a := a) (b := b)
        rcases Nat.mod_two_eq_zero_or_one (a ||| b) with h | h
        · omega
        · have := this.1 h; omega
      omega

theorem binU_sound {E : Em} {P : Program} {t : TypeId} {u : TypeDesc} {op : BinOp} {x y : AV} {a b : Value} {v : AV} {xo yo : Operand} (hu : P.underlying t = some u) (h : binU op x y = some v)
    (hx : RV E x a) (hy : RV E y b) (w : World) :
    ∃ v', (do eqGuard op t xo yo a b; binOp op t a b : Sem Value).run P w = .ok v' w ∧ RV E v v' := by
  unfold binU at h
  split at h
  · rename_i i j hi hj
    obtain ⟨n, rfl, n1, n2, n3⟩ := ivl_sound hi hx
    obtain ⟨m, rfl, m1, m2, m3⟩ := ivl_sound hj hy
    -- the operation on the numbers themselves
    have con : ∀ r, binA u false op (.int i.k n) (.int j.k m) = some r → (∀ v', RV E r v' → RV E v v') →
        ∃ v', (do eqGuard op t xo yo (.int i.k n) (.int j.k m); binOp op t (.int i.k n) (.int j.k m) : Sem Value).run P w = .ok v' w ∧ RV E v v' := by
      intro r hr hv
      obtain ⟨v', h1, h2⟩ := binA_sound (xo := xo) (yo := yo) hu hr (.int (E := E) i.k n) (.int j.k m) (fun h => by cases h) w
      exact ⟨v', h1, hv v' h2⟩
    have hb : ∀ {r b : Bool} {v' : Value}, RV E (.bool r) v' → r = b → RV E (.bool b) v' := fun h e => e ▸ h
    have bits : ∀ (k : IntKind) (z : Int), 0 ≤ z → k.wrap z = z → z.toNat < 2 ^ k.bits := by
      intro k z hz hk
      have hlt : z < 2 ^ k.bits := by
        rw [← hk]
        unfold IntKind.wrap
        have hp : (0 : Int) < 2 ^ k.bits := Int.pow_pos (by omega)
        have := Int.emod_lt_of_pos z hp
        have := Int.emod_nonneg z (Int.ne_of_gt hp)
        simp only
        split <;> omega
      have : ((2 ^ k.bits : Nat) : Int) = 2 ^ k.bits := by simp
      omega
    split at h
    · -- shl
      rename_i hop
      split at h
      · rename_i k' b'
        cases hy
        split at h
        · cases h
        · rename_i hb0
          unfold shU at h
          simp only at h
          split at h
          · rename_i hlo
            rw [ltI_eq, decide_eq_false_iff_not, Int.not_lt] at hlo
            simp only [force_eq] at h
            have hm : mkU i.k (i.lo * 2 ^ (Nat.min m.toNat i.k.bits)) (i.hi * 2 ^ (Nat.min m.toNat i.k.bits)) (.shl i.e (Nat.min m.toNat i.k.bits)) = some v := h
            have hp : (0 : Int) < 2 ^ (Nat.min m.toNat i.k.bits) := Int.pow_pos (by omega)
            have h1 := mkU_sound (E := E) hm (Int.mul_le_mul_of_nonneg_right n1 (Int.le_of_lt hp)) (Int.mul_le_mul_of_nonneg_right n2 (Int.le_of_lt hp)) (by simp only [SE.ev, n3])
            refine con (.int i.k (i.k.wrap (n * 2 ^ (Nat.min m.toNat i.k.bits)))) ?_ (fun v' hv => by obtain rfl := hv.int_inv; exact h1)
            simp only [binA, hb0, intR, force_eq, wrapF_eq]
          · cases h
      · cases h
    · rename_i hop
      split at h
      · rename_i k' b'
        cases hy
        split at h
        · cases h
        · rename_i hb0
          unfold shU at h
          simp only [force_eq] at h
          have h : some (AV.unk i.k (i.lo.fdiv (2 ^ (Nat.min m.toNat i.k.bits))) (i.hi.fdiv (2 ^ (Nat.min m.toNat i.k.bits))) (.shr i.e (Nat.min m.toNat i.k.bits))) = some v := h
          injection h with h
          subst h
          have hp : (0 : Int) < 2 ^ (Nat.min m.toNat i.k.bits) := Int.pow_pos (by omega)
          have fd : ∀ p q : Int, p ≤ q → p.fdiv (2 ^ (Nat.min m.toNat i.k.bits)) ≤ q.fdiv (2 ^ (Nat.min m.toNat i.k.bits)) := by
            intro p q hpq
            rw [Int.fdiv_eq_ediv_of_nonneg _ (Int.le_of_lt hp), Int.fdiv_eq_ediv_of_nonneg _ (Int.le_of_lt hp)]
            exact Int.ediv_le_ediv hp hpq
          refine con (.int i.k (n.fdiv (2 ^ (Nat.min m.toNat i.k.bits)))) ?_ (fun v' hv => by
            obtain rfl := hv.int_inv
            exact .unk _ _ _ _ _ (by simp only [SE.ev, n3]) (fd _ _ n1) (fd _ _ n2))
          simp only [binA, hb0, force_eq]
      · cases h
    · rename_i op' hn1 hn2
      obtain ⟨hk, h⟩ := same_spec h
      unfold arU at h
      have heq : ∀ r : Option AV, same i.k j.k r = r := fun r => by
        rw [← hk]; unfold same
        have : Nat.beq (ik i.k) (ik i.k) = true := by simp
        rw [this]
      split at h
      · unfold bU at h
        split at h
        · rename_i r hr
          injection h with h; subst h
          have := eqU_sound hr n1 n2 m1 m2 n3 m3
          refine con (.bool (n == m)) ?_ (fun v' hv => hb hv this)
          simp only [binA, eqA, ← hk]
          have : Nat.beq (ik i.k) (ik i.k) = true := by simp
          rw [this]; simp only [eqI_eq]
        · cases h
      · unfold bU at h
        split at h
        · rename_i r hr
          injection h with h; subst h
          have := eqU_sound hr n1 n2 m1 m2 n3 m3
          refine con (.bool (!(n == m))) ?_ (fun v' hv => hb hv (by rw [this]))
          simp only [binA, eqA, ← hk]
          have : Nat.beq (ik i.k) (ik i.k) = true := by simp
          rw [this]; simp only [eqI_eq]
        · cases h
      · unfold bU at h
        split at h
        · rename_i r hr
          injection h with h; subst h
          have := ltU_sound hr n1 n2 m1 m2
          refine con (.bool (decide (n < m))) ?_ (fun v' hv => hb hv this)
          simp only [binA, heq, ltI_eq]
        · cases h
      · unfold bU at h
        split at h
        · rename_i r hr
          injection h with h; subst h
          have := ltU_sound hr n1 n2 m1 m2
          refine con (.bool (!decide (n < m))) ?_ (fun v' hv => hb hv (by rw [this]))
          simp only [binA, heq, ltI_eq]
        · cases h
      · unfold bU at h
        split at h
        · rename_i r hr
          injection h with h; subst h
          have := ltU_sound hr m1 m2 n1 n2
          refine con (.bool (decide (m < n))) ?_ (fun v' hv => hb hv this)
          simp only [binA, heq, ltI_eq]
        · cases h
      · unfold bU at h
        split at h
        · rename_i r hr
          injection h with h; subst h
          have := ltU_sound hr m1 m2 n1 n2
          refine con (.bool (!decide (m < n))) ?_ (fun v' hv => hb hv (by rw [this]))
          simp only [binA, heq, ltI_eq]
        · cases h
      · simp only [force_eq] at h
        have h1 := mkU_sound (E := E) (n := n + m) h (by omega) (by omega) (by simp only [SE.ev, n3, m3])
        refine con (.int i.k (i.k.wrap (n + m))) ?_ (fun v' hv => by obtain rfl := hv.int_inv; exact h1)
        simp only [binA, heq, intR, force_eq, wrapF_eq]
      · simp only [force_eq] at h
        have h1 := mkU_sound (E := E) (n := n - m) h (by omega) (by omega) (by simp only [SE.ev, n3, m3])
        refine con (.int i.k (i.k.wrap (n - m))) ?_ (fun v' hv => by obtain rfl := hv.int_inv; exact h1)
        simp only [binA, heq, intR, force_eq, wrapF_eq]
      · split at h
        · rename_i hl1 hl2
          rw [ltI_eq, decide_eq_false_iff_not, Int.not_lt] at hl1 hl2
          simp only [force_eq] at h
          -- both lie within the kind
          have hin : inK i.k (match ltI i.lo j.lo with | true => j.lo | false => i.lo) (i.hi + j.hi) = true := by
            unfold mkU at h
            split at h
            · assumption
            · cases h
          have hmax : (match ltI i.lo j.lo with | true => j.lo | false => i.lo) ≤ max n m := by
            split <;> omega
          have hwn : i.k.wrap (max n m) = max n m := inK_wrap hin hmax (by omega)
          have hwn1 : i.k.wrap n = n := by
            rw [← wrapF_eq]
            have hh : inK i.k 0 (i.hi + j.hi) = true := by
              unfold inK at hin ⊢
              split at hin
              · rename_i h9
                split
                · simp only [ltI_eq, Bool.not_eq_true', decide_eq_false_iff_not]
                  have : (0 : Int) ≤ Int.ofNat (lim i.k) := Int.natCast_nonneg _
                  omega
                · rfl
              · cases hin
            rw [wrapF_eq]
            exact inK_wrap hh (by omega) (by omega)
          have hwn2 : i.k.wrap m = m := by
            have hh : inK i.k 0 (i.hi + j.hi) = true := by
              unfold inK at hin ⊢
              split at hin
              · rename_i h9
                split
                · simp only [ltI_eq, Bool.not_eq_true', decide_eq_false_iff_not]
                  have : (0 : Int) ≤ Int.ofNat (lim i.k) := Int.natCast_nonneg _
                  omega
                · rfl
              · cases hin
            exact inK_wrap hh (by omega) (by omega)
          have b1 := bits i.k n (by omega) hwn1
          have b2 := bits i.k m (by omega) hwn2
          have hor : ((BitVec.ofInt i.k.bits n ||| BitVec.ofInt i.k.bits m).toNat : Nat) = n.toNat ||| m.toNat := by
            rw [BitVec.toNat_or, BitVec.toNat_ofInt, BitVec.toNat_ofInt]
            have e : ∀ z : Int, 0 ≤ z → z.toNat < 2 ^ i.k.bits → (z % ((2 ^ i.k.bits : Nat) : Int)).toNat = z.toNat := by
              intro z hz hlt
              rw [Int.emod_eq_of_lt hz (by omega)]
            rw [e n (by omega) b1, e m (by omega) b2]
          have hle := nat_or_le n.toNat m.toNat
          have hge1 : n.toNat ≤ n.toNat ||| m.toNat := Nat.left_le_or
          have hge2 : m.toNat ≤ n.toNat ||| m.toNat := Nat.right_le_or
          have h1 := mkU_sound (E := E) (n := ((n.toNat ||| m.toNat : Nat) : Int)) h (by split <;> omega) (by omega) (by simp only [SE.ev, n3, m3, hor])
          refine con (.int i.k (i.k.wrap ((n.toNat ||| m.toNat : Nat) : Int))) ?_ (fun v' hv => by obtain rfl := hv.int_inv; exact h1)
          simp only [binA, heq, bitsR, force_eq, wrapF_eq, hor]
          rfl
        · cases h
      · cases h
  · cases h

noncomputable def minK (k : IntKind) : Int := match k.signed with | true => -(.ofNat (lim k)) | false => 0
noncomputable def maxK (k : IntKind) : Int := .ofNat (lim k - 1)
noncomputable def convU (d : TI) (x : AV) : Option AV :=
  match x with
  | .unk _ lo hi e => (match d.u with
    | .int k => (match inK k lo hi with
      | true => some (.unk k lo hi e)
      | false => force (minK k) fun lo => force (maxK k) fun hi => some (.unk k lo hi (.cv k e)))
    | _ => none)
  | .ustr lo hi e => (match d.u with | .string => some (.ustr lo hi e) | _ => none)
  | _ => none

theorem wrap_range (k : IntKind) (n : Int) : minK k ≤ k.wrap n ∧ k.wrap n ≤ maxK k := by
  cases k <;> simp only [minK, maxK, lim, IntKind.signed, IntKind.wrap, IntKind.bits] <;> simp <;> (try split) <;> omega

theorem convU_sound {E : Em} {P : Program} {T : Tr TI} {s d : TypeId} {ts td : TI} {m : Tr AObj} {w : World} {x : AV} {a : Value} {v : AV} (hT : Tys P T) (hs : T.get s = some ts) (hd : T.get d = some td) (hm : RH E m.get w)
    (h : convU td x = some v) (hx : RV E x a) : ∃ v', (convert s d a).run P w = .ok v' w ∧ RV E v v' := by
  unfold convU at h
  split at h
  · rename_i k0 lo hi e
    cases hx with
    | unk _ _ _ _ n n3 n1 n2 =>
      split at h
      · rename_i k hu
        have hc : convA T ts td (.int k0 n) m = some (.int k (k.wrap n)) := by
          simp only [convA, hu, intR, force_eq, wrapF_eq]
        obtain ⟨v', h1, h2⟩ := convA_sound hT hs hd hm hc (.int (E := E) k0 n)
        obtain rfl := h2.int_inv
        refine ⟨_, h1, ?_⟩
        split at h
        · rename_i hk
          injection h with h
          subst h
          rw [inK_wrap hk n1 n2]
          exact .unk _ _ _ _ _ n3 n1 n2
        · simp only [force_eq] at h
          injection h with h
          subst h
          obtain ⟨r1, r2⟩ := wrap_range k n
          exact .unk _ _ _ _ _ (by simp only [SE.ev, n3]) r1 r2
      · cases h
  · rename_i lo hi e
    cases hx with
    | ustr _ _ _ q q1 q2 q3 =>
      split at h
      · rename_i hu
        injection h with h
        subst h
        have h1 := hT.run_und hs w
        have h2 := hT.run_und hd w
        rw [hu] at h2
        exact ⟨.string q, by simp [convert, h1, h2], .ustr _ _ _ _ q1 q2 q3⟩
      · cases h
  · cases h

noncomputable def lenU (T : Tr TI) (b : Builtin) (ts : Array TypeId) (xs : List AV) : Option AV :=
  match b, xs with
  | .len, [.ustr lo hi e] => (match ts[0]? with
    | some t => (match T.get t with
      | some ti => (match ti.u with | .string => some (.unk .i64 (.ofNat lo) (.ofNat hi) (.slen e)) | _ => none)
      | none => none)
    | none => none)
  | .unsafeSliceData, [.nils] => some .nilp
  | .unsafeString, [.nilp, .int k n] => (match ts[0]? with
    | some _ => (match eqI n 0 with | true => some (.str []) | false => none)
    | none => none)
  | _, _ => none

noncomputable def uBin (r : Option TI) (op : BinOp) (x y : AV) : Option AV := match r with | some _ => binU op x y | none => none
noncomputable def uConv (r r' : Option TI) (x : AV) : Option AV := match r with
  | some _ => (match r' with | some td => convU td x | none => none)
  | none => none
noncomputable def uCall (G : Nat) (T : Tr TI) (t : Tr AV) (c : Call) : Option AV := match c with
  | ⟨.builtin b, args, ts⟩ => lenU T b ts (evs G t args.toList)
  | _ => none
noncomputable def uop (G : Nat) (T : Tr TI) (t : Tr AV) (o : Op) : Option AV :=
  match o with
  | .binOp op xt x y _ => uBin (T.get xt) op (evo G t x) (evo G t y)
  | .convert s d x => uConv (T.get s) (T.get d) (evo G t x)
  | .call c => uCall G T t c
  | _ => none

theorem uop_sound {E : Em} {P : Program} {G : Nat} {T : Tr TI} {t : Tr AV} {m : Tr AObj} {w : World} {ρ : Operand → Value} {o : Oper} {v : AV} (hT : Tys P T) (hm : RH E m.get w) (h : uop G T t o.op = some v) (hρ : ∀ x ∈ o.op.operands, RV E (evo G t x) (ρ x)) :
    ∃ v', (execOp ρ o).run P w = .ok (.value v') w ∧ RV E v v' := by
  obtain ⟨dst, op, ty, pos, after, guard⟩ := o
  simp only at h hρ
  unfold uop at h
  split at h
  · rename_i bop xt x y b
    unfold uBin at h
    split at h
    · rename_i ti ht
      obtain ⟨v', h1, h2⟩ := binU_sound (xo := x) (yo := y) (hT.und ht) h (hρ x (by simp [Op.operands])) (hρ y (by simp [Op.operands])) w
      refine ⟨v', ?_, h2⟩
      simp only [execOp]
      rw [Sem.run_bind, h1]
      rfl
    · cases h
  · rename_i s d x
    unfold uConv at h
    split at h
    · rename_i ts hs
      split at h
      · rename_i td hd
        obtain ⟨v', h1, h2⟩ := convU_sound hT hs hd hm h (hρ x (by simp [Op.operands]))
        exact ⟨v', by simp [execOp, h1], h2⟩
      · cases h
    · cases h
  · rename_i c
    obtain ⟨callee, args, ts⟩ := c
    unfold uCall at h
    split at h
    · rename_i b args' ts' hcc
      injection hcc with e1 e2 e3
      subst e1 e2 e3
      unfold lenU at h
      split at h
      · rename_i lo hi e hargs
        split at h
        · rename_i t0 hts
          split at h
          · rename_i ti ht
            split at h
            · rename_i hu
              injection h with h
              subst h
              have hl : args.toList.length = 1 := by
                have := congrArg List.length hargs
                rw [evs_map] at this
                simpa using this
              obtain ⟨x, hx⟩ : ∃ x, args.toList = [x] := List.length_eq_one_iff.1 hl
              have hax : args = #[x] := by rw [← Array.toList_inj]; exact hx
              subst hax
              have hxa := hρ x (by simp [Op.operands, Call.operands])
              have hev : evo G t x = .ustr lo hi e := by
                rw [evs_map] at hargs
                simpa using hargs
              rw [hev] at hxa
              cases hq : ρ x with
              | string q =>
                rw [hq] at hxa
                cases hxa with
                | ustr _ _ _ _ q1 q2 q3 =>
                  have h2 := hT.run_und ht w
                  rw [hu] at h2
                  refine ⟨.int .i64 (q.size : Int), ?_, .unk _ _ _ _ _ (by simp only [SE.ev, q1]) (by simp; omega) (by simp; omega)⟩
                  simp [execOp, resolve, invoke, builtin, Builtin.len_, hts, h2, goInt, hq]
              | _ => rw [hq] at hxa; cases hxa
            · cases h
          · cases h
        · cases h
      · rename_i hargs
        injection h with h
        subst h
        have hl : args.toList.length = 1 := by
          have := congrArg List.length hargs
          rw [evs_map] at this
          simpa using this
        obtain ⟨x, hx⟩ : ∃ x, args.toList = [x] := List.length_eq_one_iff.1 hl
        have hax : args = #[x] := by rw [← Array.toList_inj]; exact hx
        subst hax
        have hxa := hρ x (by simp [Op.operands, Call.operands])
        have hev : evo G t x = .nils := by
          rw [evs_map] at hargs
          simpa using hargs
        rw [hev] at hxa
        have hq := hxa.nils_inv
        refine ⟨.pointer none, ?_, .nilp⟩
        have hrun : (Builtin.unsafeSliceData_ ts ty #[.slice none 0 0]).run P w = .ok (.pointer none) w := rfl
        simp [execOp, resolve, invoke, builtin, hq, hrun]
      · rename_i k0 n0 hargs
        split at h
        · rename_i t0 hts
          split at h
          · rename_i hn0
            rw [eqI_eq, beq_iff_eq] at hn0
            subst hn0
            injection h with h
            subst h
            have hl : args.toList.length = 2 := by
              have := congrArg List.length hargs
              rw [evs_map] at this
              simpa using this
            obtain ⟨x, y, hx⟩ : ∃ x y, args.toList = [x, y] := by
              cases hargs2 : args.toList with
              | nil => rw [hargs2] at hl; simp at hl
              | cons x r => cases r with
                | nil => rw [hargs2] at hl; simp at hl
                | cons y r => cases r with
                  | nil => exact ⟨x, y, rfl⟩
                  | cons z r => rw [hargs2] at hl; simp at hl
            have hax : args = #[x, y] := by rw [← Array.toList_inj]; exact hx
            subst hax
            have hev : evo G t x = .nilp ∧ evo G t y = .int k0 0 := by
              rw [evs_map] at hargs
              simpa using hargs
            have hxa := hρ x (by simp [Op.operands, Call.operands])
            have hya := hρ y (by simp [Op.operands, Call.operands])
            rw [hev.1] at hxa
            rw [hev.2] at hya
            have hq := hxa.nilp_inv
            have hq2 := hya.int_inv
            refine ⟨.string .empty, ?_, .str _ _ rfl⟩
            have hrun : (Builtin.unsafeString_ ts ty #[.pointer none, .int k0 0]).run P w = .ok (.string .empty) w := by
              obtain ⟨tl⟩ := ts
              cases tl with
              | nil => simp at hts
              | cons a r => rfl
            simp [execOp, resolve, invoke, builtin, hq, hq2, hrun]
          · cases h
        · cases h
      · cases h
    · cases h
  · cases h

/-- What reads, with numbers that are not known. -/
noncomputable def qopX (G : Nat) (T : Tr TI) (t : Tr AV) (m : Tr AObj) (o : Op) : Option AV :=
  match qopF G T t m o with
  | some v => some v
  | none => uop G T t o
theorem qopX_sound {E : Em} {P : Program} {G : Nat} {T : Tr TI} {t : Tr AV} {m : Tr AObj} {w : World} {ρ : Operand → Value} {o : Oper} {v : AV} (hT : Tys P T) (hm : RH E m.get w) (h : qopX G T t m o.op = some v) (hρ : ∀ x ∈ o.op.operands, RV E (evo G t x) (ρ x)) :
    ∃ v', (execOp ρ o).run P w = .ok (.value v') w ∧ RV E v v' := by
  unfold qopX at h
  split at h
  · rename_i v0 hq
    injection h with h
    subst h
    rw [qopF_eq] at hq
    exact qop_sound hT hm hq hρ
  · exact uop_sound hT hm h hρ
theorem qopX_nodefer {G : Nat} {T : Tr TI} {t : Tr AV} {m : Tr AObj} {o : Op} {v : AV} (h : qopX G T t m o = some v) : ∀ c, o ≠ .defer c := by
  intro c hc; subst hc; cases h
end Go.Ev
namespace Go.Ev
set_option linter.unusedVariables false
set_option linter.unusedSimpArgs false

/-! The abstract machine. -/
inductive AReg where
  | no
  | seq (ops : Array Oper) (rest : List Oper) (i : Nat)
  | rfun (b : Nat)
  | rend (b : Nat)
  | dr (pl : Plan) (p : Nat) (vals : Tr AV) (als : List (Nat × Nat × AObj))

structure AFrame where
  fn : FuncId
  reg : AReg
  todo : List Item
  t : Tr AV
  nt : Nat
  ds : List ADef
  ret : Bool
  dfr : Bool
  round : Option Nat

structure AState where
  fr : AFrame
  cs : List AFrame
  m : Tr AObj
  nx : Nat

structure AFn where
  body : Code
  ntmps : Nat
  results : List ResultVar

structure Ctx where
  G : Nat
  V : SV
  T : Tr TI
  F : Tr AFn
  I : FuncId → Option (List AV → Tr AObj → Nat → Option (AV × Tr AObj × Nat))

noncomputable def putT (t : Tr AV) (nt : Nat) (d : Option Tmp) (v : AV) : Option (Tr AV) :=
  match d with
  | none => some t
  | some d => (match Nat.blt d nt with | true => some (t.set d (some v)) | false => none)

noncomputable def wantA (ops : List Oper) (t : Tr AV) (g : Option (Nat × Bool)) : Option Bool :=
  match g with
  | none => some true
  | some (j, w) => (match ops[j]? with
    | some o => (match o.dst with
      | some d => (match t.get d, w with
        | some (.bool true), true => some true
        | some (.bool false), false => some true
        | some (.bool true), false => some false
        | some (.bool false), true => some false
        | some (.tup []), _ => some false
        | _, _ => none)
      | none => some false)
    | none => some false)

inductive ANext where
  | val (v : AV) (m : Tr AObj) (nx : Nat)
  | intr (f : FuncId) (args : List AV) (v : AV) (m : Tr AObj) (nx : Nat)
  | enter (f : FuncId) (args : List AV)
  | round (b : Nat) (args : List AV)
  | defer (d : ADef)

noncomputable def callA (C : Ctx) (m : Tr AObj) (nx : Nat) (f : FuncId) (args : List AV) : Option ANext :=
  match C.I f with
  | some g => (match g args m nx with | some (v, m', nx') => some (.intr f args v m' nx') | none => none)
  | none => some (.enter f args)

noncomputable def recA (m : Tr AObj) (nx : Nat) (rd : Bool) : Option ANext := match rd with | true => some (.val .nili m nx) | false => none
noncomputable def valueA (C : Ctx) (m : Tr AObj) (nx : Nat) (f : AV) (args : List AV) : Option ANext :=
  match f with
  | .func g first cap => callA C m nx g (first ++ args ++ cap)
  | .yield b => some (.round b args)
  | _ => none
noncomputable def deferA (f : AV) (args : List AV) : Option ANext :=
  match f with
  | .func g first cap => some (.defer (.call g cap (first ++ args)))
  | _ => none
noncomputable def effA (r : Option (AV × Tr AObj × Nat)) : Option ANext := match r with | some (v, m', nx') => some (.val v m' nx') | none => none
noncomputable def plainA (C : Ctx) (t : Tr AV) (m : Tr AObj) (nx : Nat) (o : Op) : Option ANext :=
  match qopX C.G C.T t m o with
  | some v => some (.val v m nx)
  | none => effA (eopF C.G C.T t m nx o)
noncomputable def callsA (C : Ctx) (t : Tr AV) (m : Tr AObj) (nx : Nat) (rd : Bool) (c : Call) : Option ANext :=
  match c with
  | ⟨.builtin .recover, _, _⟩ => recA m nx rd
  | ⟨.value f, args, _⟩ => valueA C m nx (evo C.G t f) (evs C.G t args.toList)
  | c => plainA C t m nx (.call c)
noncomputable def defersA (C : Ctx) (t : Tr AV) (c : Call) : Option ANext :=
  match c with
  | ⟨.value f, args, _⟩ => deferA (evo C.G t f) (evs C.G t args.toList)
  | _ => none
noncomputable def actA (C : Ctx) (t : Tr AV) (m : Tr AObj) (nx : Nat) (rd : Bool) (o : Op) : Option ANext :=
  match o with
  | .call c => callsA C t m nx rd c
  | .defer c => defersA C t c
  | o => plainA C t m nx o

/-! Are two values the same? -/
noncomputable def lall2 (f : AV → AV → Bool) (l : List AV) : List AV → Bool :=
  List.rec (motive := fun _ => List AV → Bool) (fun l' => match l' with | [] => true | _ :: _ => false)
    (fun a _ r l' => match l' with | [] => false | b :: l' => (match f a b with | true => r l' | false => false)) l

def capEq : Option Nat → Option Nat → Bool
  | none, none => true
  | some a, some b => Nat.beq a b
  | _, _ => false

noncomputable def sameF (r : AV → AV → Bool) (a b : AV) : Bool :=
  match a, b with
    | .top, .top => true
    | .bool true, .bool true => true
    | .bool false, .bool false => true
    | .int k a, .int k' b => Nat.beq (ik k) (ik k') && eqI a b
    | .unk k lo hi t, .unk k' lo' hi' t' => Nat.beq (ik k) (ik k') && eqI lo lo' && eqI hi hi' && sameE 4000 t t'
    | .ustr lo hi e, .ustr lo' hi' e' => Nat.beq lo lo' && Nat.beq hi hi' && Nat.beq e e'
    | .str a, .str b => eqL a b
    | .nilp, .nilp => true
    | .ptr b o, .ptr b' o' => Nat.beq b b' && Nat.beq o o'
    | .nils, .nils => true
    | .sl b o l c z, .sl b' o' l' c' z' => Nat.beq b b' && Nat.beq o o' && Nat.beq l l' && capEq c c' && Nat.beq z z'
    | .nilm, .nilm => true
    | .map b, .map b' => Nat.beq b b'
    | .nilf, .nilf => true
    | .func f a b, .func f' a' b' => Nat.beq f f' && lall2 r a a' && lall2 r b b'
    | .nili, .nili => true
    | .iface t v, .iface t' v' => Nat.beq t t' && r v v'
    | .agg l, .agg l' => lall2 r l l'
    | .tup l, .tup l' => lall2 r l l'
    | _, _ => false

noncomputable def sameV (n : Nat) : AV → AV → Bool :=
  Nat.rec (motive := fun _ => AV → AV → Bool) (fun _ _ => false) (fun _ r a b => sameF r a b) n

theorem capEq_eq {a b : Option Nat} (h : capEq a b = true) : a = b := by
  unfold capEq at h
  split at h
  · rfl
  · rw [Nat.eq_of_beq_eq_true h]
  · cases h

theorem lall2_eq {f : AV → AV → Bool} (hf : ∀ a b, f a b = true → a = b) : ∀ (l l' : List AV), lall2 f l l' = true → l = l'
  | [], [], _ => rfl
  | [], _ :: _, h => by cases h
  | _ :: _, [], h => by cases h
  | a :: l, b :: l', h => by
    have h' : (match f a b with | true => lall2 f l l' | false => false) = true := h
    split at h'
    · rename_i hab; rw [hf a b hab, lall2_eq hf l l' h']
    · cases h'

theorem sameV_eq : ∀ (n : Nat) (a b : AV), sameV n a b = true → a = b := by
  intro n
  induction n with
  | zero => intro a b h; cases h
  | succ n ih =>
    intro a b h
    have hs : sameV (n + 1) a b = sameF (sameV n) a b := rfl
    rw [hs] at h
    unfold sameF at h
    have be : ∀ {x y : Nat}, Nat.beq x y = true → x = y := fun h => Nat.eq_of_beq_eq_true h
    have ei : ∀ {x y : Int}, eqI x y = true → x = y := fun h => by rw [eqI_eq, beq_iff_eq] at h; exact h
    split at h <;> try rfl
    · rw [Bool.and_eq_true] at h; rw [ik_inj h.1, ei h.2]
    · simp only [Bool.and_eq_true] at h; rw [ik_inj h.1.1.1, ei h.1.1.2, ei h.1.2, sameE_eq _ _ _ h.2]
    · simp only [Bool.and_eq_true] at h; rw [be h.1.1, be h.1.2, be h.2]
    · rw [eqL_eq, beq_iff_eq] at h; rw [h]
    · rw [Bool.and_eq_true] at h; rw [be h.1, be h.2]
    · simp only [Bool.and_eq_true] at h; rw [be h.1.1.1.1, be h.1.1.1.2, be h.1.1.2, capEq_eq h.1.2, be h.2]
    · rw [be h]
    · simp only [Bool.and_eq_true] at h; rw [be h.1.1, lall2_eq ih _ _ h.1.2, lall2_eq ih _ _ h.2]
    · rw [Bool.and_eq_true] at h; rw [be h.1, ih _ _ h.2]
    · rw [lall2_eq ih _ _ h]
    · rw [lall2_eq ih _ _ h]
    · cases h

/-! Regions that draw. -/
noncomputable def envA (t : Tr AV) (vals : Tr AV) (srcs : List (Tmp × Nat)) : Tr AV := lfold (fun (t : Tr AV) (s : Tmp × Nat) => t.set s.1 (vals.get s.2)) srcs t

noncomputable def certQ (C : Ctx) (t vals : Tr AV) (ops : List Oper) (m : Tr AObj) (x : POp) : Option AV :=
  match wantA ops (envA t vals x.srcs) x.o.guard with
  | some true => qopX C.G C.T (envA t vals x.srcs) m x.o.op
  | some false => some (.tup [])
  | none => none

noncomputable def certA (C : Ctx) (t vals : Tr AV) (ops : List Oper) (id : Nat) (x : POp) : Option (AV × Option AObj) :=
  match wantA ops (envA t vals x.srcs) x.o.guard with
  | some true => (match aopF C.G C.T (envA t vals x.srcs) id x.o.op with | some (v, ob) => some (v, some ob) | none => none)
  | some false => some (.tup [], none)
  | none => none

abbrev DS := Tr AV × List (Nat × Nat × AObj) × Nat

noncomputable def passOne (C : Ctx) (t : Tr AV) (ops : List Oper) (m : Tr AObj) (p : Nat) (x : POp) (s : DS) : Option DS :=
  match Nat.beq x.kd 2, Nat.ble x.lo p, Nat.ble p x.hi with
  | false, true, true => (match Nat.beq x.kd 1, Nat.beq x.lo p with
    | false, true => (match certQ C t s.1 ops m x, s.1.get x.i with
      | some v, none => some (s.1.set x.i (some v), s.2.1, s.2.2)
      | _, _ => none)
    | false, false => (match certQ C t s.1 ops m x, s.1.get x.i with
      | some v, some v' => (match sameV 30 v v' with | true => some s | false => none)
      | _, _ => none)
    | true, true => (match certA C t s.1 ops s.2.2 x, s.1.get x.i with
      | some (v, some ob), none => some (s.1.set x.i (some v), (x.i, s.2.2, ob) :: s.2.1, s.2.2 + 1)
      | some (v, none), none => some (s.1.set x.i (some v), s.2.1, s.2.2)
      | _, _ => none)
    | true, false => some s)
  | _, _, _ => some s

noncomputable def passA (C : Ctx) (t : Tr AV) (ops : List Oper) (m : Tr AObj) (p : Nat) (l : List POp) : DS → Option DS :=
  List.rec (motive := fun _ => DS → Option DS) (fun s => some s) (fun x _ r s => match passOne C t ops m p x s with | some s' => r s' | none => none) l

/-- What was made and must be there. -/
noncomputable def mergeA (bef : Nat) (all : Bool) (als : List (Nat × Nat × AObj)) (m : Tr AObj) : Tr AObj × List (Nat × Nat × AObj) :=
  List.rec (motive := fun _ => Tr AObj × List (Nat × Nat × AObj)) (m, []) (fun a _ r => match all || bef.testBit a.1 with
    | true => (r.1.set a.2.1 (some a.2.2), r.2)
    | false => (r.1, a :: r.2)) als

noncomputable def endT (vals : Tr AV) (nt : Nat) (l : List POp) : Tr AV → Option (Tr AV) :=
  List.rec (motive := fun _ => Tr AV → Option (Tr AV)) (fun t => some t) (fun x _ r t => match x.o.dst with
    | none => r t
    | some d => (match vals.get x.i with
      | some v => r (t.set d (some v))
      | none => none)) l

/-- A value comes back to a frame. -/
noncomputable def drAfter (C : Ctx) (fn : FuncId) (todo : List Item) (t : Tr AV) (nt : Nat) (ds : List ADef) (ret dfr : Bool) (round : Option Nat) (pl : Plan) (p : Nat) (vals : Tr AV) (als : List (Nat × Nat × AObj)) (e : POp) (v : AV) (m : Tr AObj) (nx : Nat) : Option (AFrame × Nat) :=
  match vals.get e.i, passA C t pl.ops.toList m (p + 1) pl.l (vals.set e.i (some v), als, nx) with
  | none, some (vals', als', nx') => some (⟨fn, .dr pl (p + 1) vals' als', todo, t, nt, ds, ret, dfr, round⟩, nx')
  | _, _ => none

noncomputable def finSeq (fn : FuncId) (ops : Array Oper) (rest : List Oper) (i : Nat) (todo : List Item) (nt : Nat) (ds : List ADef) (ret dfr : Bool) (round : Option Nat) (nx : Nat) (r : Option (Tr AV)) : Option (AFrame × Nat) :=
  match r with
  | some t' => some (⟨fn, .seq ops rest (i + 1), todo, t', nt, ds, ret, dfr, round⟩, nx)
  | none => none
noncomputable def finDr (C : Ctx) (fn : FuncId) (todo : List Item) (t : Tr AV) (nt : Nat) (ds : List ADef) (ret dfr : Bool) (round : Option Nat) (pl : Plan) (p : Nat) (vals : Tr AV) (als : List (Nat × Nat × AObj)) (v : AV) (m : Tr AObj) (nx : Nat) : Option (AFrame × Nat) :=
  match pl.effs[p]? with
  | some e => drAfter C fn todo t nt ds ret dfr round pl p vals als e v m nx
  | none => none
noncomputable def finishA (C : Ctx) (fr : AFrame) (v : AV) (m : Tr AObj) (nx : Nat) : Option (AFrame × Nat) :=
  match fr with
  | ⟨fn, reg, todo, t, nt, ds, ret, dfr, round⟩ => (match reg with
    | .seq ops (o :: rest) i => finSeq fn ops rest i todo nt ds ret dfr round nx (putT t nt o.dst v)
    | .rfun b => some (⟨fn, .rend b, todo, t, nt, ds, ret, dfr, round⟩, nx)
    | .dr pl p vals als => finDr C fn todo t nt ds ret dfr round pl p vals als v m nx
    | _ => none)

noncomputable def enterA (C : Ctx) (f : FuncId) (args : List AV) (dfr : Bool) : Option AFrame :=
  match C.F.get f with
  | some ⟨body, ntmps, _⟩ => (match Nat.ble args.length ntmps with
    | true => some ⟨f, .no, [.code body], Tr.e.sets 0 args, ntmps, [], false, dfr, none⟩
    | false => none)
  | none => none

noncomputable def setsT (n : Nat) (ps : List Tmp) : List AV → Tr AV → Option (Tr AV) :=
  List.rec (motive := fun _ => List AV → Tr AV → Option (Tr AV)) (fun l t => match l with | [] => some t | _ :: _ => none)
    (fun p _ r l t => match l with
      | [] => none
      | v :: l => (match Nat.blt p n with | true => r l (t.set p (some v)) | false => none)) ps

noncomputable def roundA (m : Tr AObj) (b : Nat) (args : List AV) : Option AFrame :=
  match m.get b with
  | some (.loop st pend fn t n ps asg body) => (match setsT n ps.toList args t with
    | some t' => some ⟨fn, .no, [.code asg, .beginRound, .code body], t', n, [], false, false, some b⟩
    | none => none)
  | _ => none

noncomputable def resA (C : Ctx) (t : Tr AV) (m : Tr AObj) (l : List ResultVar) : Option (List AV) :=
  List.rec (motive := fun _ => Option (List AV)) (some []) (fun x _ r => match x with
    | .tmp i => (match t.get i, r with | some v, some l => some (v :: l) | _, _ => none)
    | .cell a ty => (match t.get a, C.T.get ty, r with
      | some p, some ti, some l => (match loadA ti m p with | some v => some (v :: l) | none => none)
      | _, _, _ => none)) l

def oneA : List AV → AV
  | [v] => v
  | l => .tup l

/-- What a frame's operation comes to. -/
noncomputable def mkS (cs : List AFrame) (m : Tr AObj) (r : Option (AFrame × Nat)) : Option AState := match r with | some (fr', nx') => some ⟨fr', cs, m, nx'⟩ | none => none
noncomputable def pushS (fr : AFrame) (cs : List AFrame) (m : Tr AObj) (nx : Nat) (r : Option AFrame) : Option AState := match r with | some g => some ⟨g, fr :: cs, m, nx⟩ | none => none
noncomputable def seqT (fn : FuncId) (ops : Array Oper) (rest : List Oper) (i : Nat) (todo : List Item) (nt : Nat) (ds : List ADef) (ret dfr : Bool) (round : Option Nat) (cs : List AFrame) (m : Tr AObj) (nx : Nat) (r : Option (Tr AV)) : Option AState :=
  match r with
  | some t' => some ⟨⟨fn, .seq ops rest (i + 1), todo, t', nt, ds, ret, dfr, round⟩, cs, m, nx⟩
  | none => none
noncomputable def defS (fr : AFrame) (cs : List AFrame) (m : Tr AObj) (nx : Nat) (d : ADef) : Option AState :=
  match fr with
  | ⟨fn, .seq ops (o :: rest) i, todo, t, nt, ds, ret, dfr, none⟩ => seqT fn ops rest i todo nt (d :: ds) ret dfr none cs m nx (putT t nt o.dst (.tup []))
  | _ => none
noncomputable def nextA (C : Ctx) (fr : AFrame) (cs : List AFrame) (m : Tr AObj) (nx : Nat) (r : Option ANext) : Option AState :=
  match r with
  | some a => (match a with
    | .val v m' nx' => mkS cs m' (finishA C fr v m' nx')
    | .intr _ _ v m' nx' => mkS cs m' (finishA C fr v m' nx')
    | .enter f args => pushS fr cs m nx (enterA C f args false)
    | .round b args => pushS fr cs m nx (roundA m b args)
    | .defer d => defS fr cs m nx d)
  | none => none

def recOk (cs : List AFrame) (dfr : Bool) (round : Option Nat) : Bool :=
  match round, dfr with
  | none, false => true
  | none, true => (match cs with | ⟨_, _, _, _, _, _, ret, _, _⟩ :: _ => ret | [] => false)
  | _, _ => false

noncomputable def operA (C : Ctx) (fn : FuncId) (ops : Array Oper) (o : Oper) (rest : List Oper) (i : Nat) (todo : List Item) (t : Tr AV) (nt : Nat) (ds : List ADef) (dfr : Bool) (round : Option Nat) (cs : List AFrame) (m : Tr AObj) (nx : Nat) (w : Option Bool) : Option AState :=
  match w with
  | some b => (match b with
    | true => nextA C ⟨fn, .seq ops (o :: rest) i, todo, t, nt, ds, false, dfr, round⟩ cs m nx (actA C t m nx (recOk cs dfr round) o.op)
    | false => seqT fn ops rest i todo nt ds false dfr round cs m nx (putT t nt o.dst (.tup [])))
  | none => none
noncomputable def seqA (C : Ctx) (fn : FuncId) (ops : Array Oper) (rest : List Oper) (i : Nat) (todo : List Item) (t : Tr AV) (nt : Nat) (ds : List ADef) (dfr : Bool) (round : Option Nat) (cs : List AFrame) (m : Tr AObj) (nx : Nat) : Option AState :=
  match rest with
  | [] => some ⟨⟨fn, .no, todo, t, nt, ds, false, dfr, round⟩, cs, m, nx⟩
  | o :: rest => operA C fn ops o rest i todo t nt ds dfr round cs m nx (wantA ops.toList t o.guard)
noncomputable def drEnd (fn : FuncId) (todo : List Item) (nt : Nat) (ds : List ADef) (dfr : Bool) (round : Option Nat) (cs : List AFrame) (m : Tr AObj) (nx : Nat) (r : Option (Tr AV)) : Option AState :=
  match r with
  | some t' => some ⟨⟨fn, .no, todo, t', nt, ds, false, dfr, round⟩, cs, m, nx⟩
  | none => none
noncomputable def drEff (C : Ctx) (fn : FuncId) (todo : List Item) (t : Tr AV) (nt : Nat) (ds : List ADef) (dfr : Bool) (round : Option Nat) (cs : List AFrame) (nx : Nat) (pl : Plan) (p : Nat) (vals : Tr AV) (e : POp) (r : Tr AObj × List (Nat × Nat × AObj)) : Option AState :=
  match r with
  | (m1, als1) => nextA C ⟨fn, .dr pl p vals als1, todo, t, nt, ds, false, dfr, round⟩ cs m1 nx (actA C (envA t vals e.srcs) m1 nx (recOk cs dfr round) e.o.op)
noncomputable def drOp (C : Ctx) (fn : FuncId) (todo : List Item) (t : Tr AV) (nt : Nat) (ds : List ADef) (dfr : Bool) (round : Option Nat) (cs : List AFrame) (m : Tr AObj) (nx : Nat) (pl : Plan) (p : Nat) (vals : Tr AV) (als : List (Nat × Nat × AObj)) (e : POp) (w : Option Bool) : Option AState :=
  match w with
  | some b => (match b with
    | true => drEff C fn todo t nt ds dfr round cs nx pl p vals e (mergeA e.bef false als m)
    | false => mkS cs m (drAfter C fn todo t nt ds false dfr round pl p vals als e (.tup []) m nx))
  | none => none
noncomputable def drA (C : Ctx) (fn : FuncId) (todo : List Item) (t : Tr AV) (nt : Nat) (ds : List ADef) (dfr : Bool) (round : Option Nat) (cs : List AFrame) (m : Tr AObj) (nx : Nat) (pl : Plan) (p : Nat) (vals : Tr AV) (als : List (Nat × Nat × AObj)) (r : Option POp) : Option AState :=
  match r with
  | none => drEnd fn todo nt ds dfr round cs (mergeA 0 true als m).1 nx (endT vals nt pl.l t)
  | some e => drOp C fn todo t nt ds dfr round cs m nx pl p vals als e (wantA pl.ops.toList (envA t vals e.srcs) e.o.guard)
noncomputable def rendA (fn : FuncId) (todo : List Item) (t : Tr AV) (nt : Nat) (ds : List ADef) (dfr : Bool) (round : Option Nat) (cs : List AFrame) (m : Tr AObj) (nx : Nat) (b : Nat) : Option AState :=
  match m.get b with
  | some (.loop st pend lf lt n ps asg body) => (match st with
    | .busy => none
    | _ => some ⟨⟨fn, .no, (match pend with | some c => Item.code c :: todo | none => todo), t, nt, ds, false, dfr, round⟩, cs, m.set b (some (.loop .exhausted pend lf lt n ps asg body)), nx⟩)
  | _ => none
noncomputable def regA (C : Ctx) (fn : FuncId) (reg : AReg) (todo : List Item) (t : Tr AV) (nt : Nat) (ds : List ADef) (dfr : Bool) (round : Option Nat) (cs : List AFrame) (m : Tr AObj) (nx : Nat) : Option AState :=
  match reg with
  | .seq ops rest i => seqA C fn ops rest i todo t nt ds dfr round cs m nx
  | .dr pl p vals als => drA C fn todo t nt ds dfr round cs m nx pl p vals als pl.effs[p]?
  | .rend b => rendA fn todo t nt ds dfr round cs m nx b
  | _ => none

def jmpB : Option Code → Bool
  | none => true
  | some _ => false
def jmpS : Option Code → LoopState
  | none => .ready
  | some _ => .done
noncomputable def leaveA (C : Ctx) (fn : FuncId) (todo : List Item) (t : Tr AV) (nt : Nat) (ds : List ADef) (dfr : Bool) (round : Option Nat) (cs : List AFrame) (m : Tr AObj) (nx : Nat) (jump : Option Code) : Option AState :=
  match round with
  | none => (match jump with
    | none => some ⟨⟨fn, .no, todo, t, nt, ds, true, dfr, none⟩, cs, m, nx⟩
    | some .ret => some ⟨⟨fn, .no, todo, t, nt, ds, true, dfr, none⟩, cs, m, nx⟩
    | _ => none)
  | some b => (match m.get b, cs, dfr with
    | some (.loop st pend lf lt n ps asg body), c :: cs', false => (match m.set b (some (.loop (jmpS jump) jump lf lt n ps asg body)) with
      | m' => (match finishA C c (.bool (jmpB jump)) m' nx with
        | some (c', nx') => some ⟨c', cs', m', nx'⟩
        | none => none))
    | _, _, _ => none)

noncomputable def goA (fn : FuncId) (todo : List Item) (t : Tr AV) (nt : Nat) (ds : List ADef) (dfr : Bool) (round : Option Nat) (cs : List AFrame) (m : Tr AObj) (nx : Nat) : Option AState := some ⟨⟨fn, .no, todo, t, nt, ds, false, dfr, round⟩, cs, m, nx⟩
noncomputable def condA (fn : FuncId) (a b : Code) (k : List Item) (t : Tr AV) (nt : Nat) (ds : List ADef) (dfr : Bool) (round : Option Nat) (cs : List AFrame) (m : Tr AObj) (nx : Nat) (x : AV) : Option AState :=
  match x with
  | .bool r => (match r with
    | true => goA fn (.code a :: k) t nt ds dfr round cs m nx
    | false => goA fn (.code b :: k) t nt ds dfr round cs m nx)
  | _ => none
noncomputable def jumpA (C : Ctx) (fn : FuncId) (k : List Item) (t : Tr AV) (nt : Nat) (ds : List ADef) (dfr : Bool) (round : Option Nat) (cs : List AFrame) (m : Tr AObj) (nx : Nat) (jump : Code) (r : Option (List Item)) : Option AState :=
  match r with
  | some k' => goA fn k' t nt ds dfr round cs m nx
  | none => leaveA C fn k t nt ds dfr round cs m nx (some jump)
noncomputable def drawS (fn : FuncId) (k : List Item) (t : Tr AV) (nt : Nat) (ds : List ADef) (dfr : Bool) (round : Option Nat) (cs : List AFrame) (m : Tr AObj) (pl : Plan) (r : Option DS) : Option AState :=
  match r with
  | some (vals, als, nx') => some ⟨⟨fn, .dr pl 0 vals als, k, t, nt, ds, false, dfr, round⟩, cs, m, nx'⟩
  | none => none
noncomputable def drawA (C : Ctx) (fn : FuncId) (k : List Item) (t : Tr AV) (nt : Nat) (ds : List ADef) (dfr : Bool) (round : Option Nat) (cs : List AFrame) (m : Tr AObj) (nx : Nat) (r : Option Plan) : Option AState :=
  match r with
  | some pl => (match lall (fun x => match x.o.dst with | some d => Nat.blt d nt | none => true) pl.l with
    | true => drawS fn k t nt ds dfr round cs m pl (passA C t pl.ops.toList m 0 pl.l (.e, [], nx))
    | false => none)
  | none => none
noncomputable def regionA (C : Ctx) (fn : FuncId) (ops : Array Oper) (draw : Bool) (k : List Item) (t : Tr AV) (nt : Nat) (ds : List ADef) (dfr : Bool) (round : Option Nat) (cs : List AFrame) (m : Tr AObj) (nx : Nat) : Option AState :=
  match draw with
  | false => some ⟨⟨fn, .seq ops ops.toList 0, k, t, nt, ds, false, dfr, round⟩, cs, m, nx⟩
  | true => drawA C fn k t nt ds dfr round cs m nx (planOf C.T ops)
noncomputable def rangeA (C : Ctx) (fn : FuncId) (f : Operand) (params : Array Tmp) (asg body : Code) (k : List Item) (t : Tr AV) (nt : Nat) (ds : List ADef) (dfr : Bool) (round : Option Nat) (cs : List AFrame) (m : Tr AObj) (nx : Nat) : Option AState :=
  match round, evo C.G t f with
  | none, .func g first cap => (match C.I g with
    | none => (match enterA C g (first ++ [.yield (nx + 1)] ++ cap) false with
      | some h => some ⟨h, ⟨fn, .rfun (nx + 1), k, t, nt, .coll nx :: ds, false, dfr, none⟩ :: cs, (m.set nx (some .defs)).set (nx + 1) (some (.loop .ready none fn t nt params asg body)), nx + 2⟩
      | none => none)
    | some _ => none)
  | _, _ => none
noncomputable def codeA (C : Ctx) (fn : FuncId) (c : Code) (k : List Item) (t : Tr AV) (nt : Nat) (ds : List ADef) (dfr : Bool) (round : Option Nat) (cs : List AFrame) (m : Tr AObj) (nx : Nat) : Option AState :=
  match c with
  | .skip => goA fn k t nt ds dfr round cs m nx
  | .label _ => goA fn k t nt ds dfr round cs m nx
  | .seq a b => goA fn (.code a :: .code b :: k) t nt ds dfr round cs m nx
  | .cond x a b => condA fn a b k t nt ds dfr round cs m nx (evo C.G t x)
  | .block id b => goA fn (.code b :: .inBlock id :: k) t nt ds dfr round cs m nx
  | .loop b => goA fn (.code b :: .inLoop b :: k) t nt ds dfr round cs m nx
  | .scope b => goA fn (.code b :: .inScope b :: k) t nt ds dfr round cs m nx
  | .exit id => jumpA C fn k t nt ds dfr round cs m nx (.exit id) (exitTo id k)
  | .goto l => jumpA C fn k t nt ds dfr round cs m nx (.goto l) (gotoIn l k)
  | .ret => leaveA C fn k t nt ds dfr round cs m nx (some .ret)
  | .region _ ops draw => regionA C fn ops draw k t nt ds dfr round cs m nx
  | .rangeFunc f params asg body => rangeA C fn f params asg body k t nt ds dfr round cs m nx
  | .refuse _ => none

noncomputable def beginA (fn : FuncId) (k : List Item) (t : Tr AV) (nt : Nat) (ds : List ADef) (dfr : Bool) (round : Option Nat) (cs : List AFrame) (m : Tr AObj) (nx : Nat) : Option AState :=
  match round with
  | some b => (match m.get b with
    | some (.loop .ready pend lf lt n ps asg body) => some ⟨⟨fn, .no, k, t, nt, ds, false, dfr, some b⟩, cs, m.set b (some (.loop .busy pend lf lt n ps asg body)), nx⟩
    | _ => none)
  | none => none
noncomputable def itemA (C : Ctx) (fn : FuncId) (i : Item) (k : List Item) (t : Tr AV) (nt : Nat) (ds : List ADef) (dfr : Bool) (round : Option Nat) (cs : List AFrame) (m : Tr AObj) (nx : Nat) : Option AState :=
  match i with
  | .code c => codeA C fn c k t nt ds dfr round cs m nx
  | .inBlock _ => goA fn k t nt ds dfr round cs m nx
  | .inScope _ => goA fn k t nt ds dfr round cs m nx
  | .inLoop b => goA fn (.code b :: .inLoop b :: k) t nt ds dfr round cs m nx
  | .beginRound => beginA fn k t nt ds dfr round cs m nx
  | _ => none
noncomputable def todoA (C : Ctx) (fn : FuncId) (todo : List Item) (t : Tr AV) (nt : Nat) (ds : List ADef) (dfr : Bool) (round : Option Nat) (cs : List AFrame) (m : Tr AObj) (nx : Nat) : Option AState :=
  match todo with
  | [] => leaveA C fn [] t nt ds dfr round cs m nx none
  | i :: k => itemA C fn i k t nt ds dfr round cs m nx

noncomputable def retA (C : Ctx) (fn : FuncId) (reg : AReg) (todo : List Item) (t : Tr AV) (nt : Nat) (ds : List ADef) (dfr : Bool) (round : Option Nat) (cs : List AFrame) (m : Tr AObj) (nx : Nat) : Option AState :=
  match ds with
  | .call f cap args :: ds' => (match enterA C f (args ++ cap) true with
    | some h => some ⟨h, ⟨fn, reg, todo, t, nt, ds', true, dfr, round⟩ :: cs, m, nx⟩
    | none => none)
  | .coll b :: ds' => (match m.get b with
    | some .defs => some ⟨⟨fn, reg, todo, t, nt, ds', true, dfr, round⟩, cs, m.set b none, nx⟩
    | _ => none)
  | [] => (match cs, C.F.get fn with
    | c :: cs', some ⟨_, _, rs⟩ => (match resA C t m rs with
      | some l => (match dfr with
        | true => (match c with
          | ⟨fn', .no, todo', t', nt', ds', true, dfr', round'⟩ => some ⟨⟨fn', .no, todo', t', nt', ds', true, dfr', round'⟩, cs', m, nx⟩
          | _ => none)
        | false => (match finishA C c (oneA l) m nx with | some (c', nx') => some ⟨c', cs', m, nx'⟩ | none => none))
      | none => none)
    | _, _ => none)

noncomputable def astep (C : Ctx) (s : AState) : Option AState :=
  match s with
  | ⟨⟨fn, reg, todo, t, nt, ds, ret, dfr, round⟩, cs, m, nx⟩ => (match ret with
    | true => (match reg with
      | .no => retA C fn .no todo t nt ds dfr round cs m nx
      | _ => none)
    | false => (match reg with
      | .no => todoA C fn todo t nt ds dfr round cs m nx
      | reg => regA C fn reg todo t nt ds dfr round cs m nx))

noncomputable def arun (C : Ctx) (n : Nat) : AState → AState :=
  Nat.rec (motive := fun _ => AState → AState) (fun s => s) (fun _ r s => match astep C s with | some s' => r s' | none => s) n
end Go.Ev
