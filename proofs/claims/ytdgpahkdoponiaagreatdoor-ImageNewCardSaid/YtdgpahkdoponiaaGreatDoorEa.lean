/- ImageNew answers true for every number of words, whatever lies in memory, where the listed package variables hold what the program's text lays in them. This text is a part of that proof. -/
import GoSem.Step
import Derived.KernelRfl
import Derived.Laws.Entries
import Derived.Laws.World
import Derived.Lib.Strings
import Derived.Lib.SmallJoins
import Derived.IntWalk
namespace Go.Ev
set_option linter.unusedVariables false

/-! Tries over Nat: the key 0 at the root; k + 1 to the left if k is even, else to the right, with k / 2. -/
inductive Tr (α : Type) where
  | e : Tr α
  | n : Option α → Tr α → Tr α → Tr α

noncomputable def Tr.get {α : Type} (t : Tr α) : Nat → Option α :=
  Tr.rec (motive := fun _ => Nat → Option α) (fun _ => none)
    (fun v _ _ gl gr k => Nat.rec (motive := fun _ => Option α) v
      (fun j _ => Nat.rec (motive := fun _ => Option α) (gl (j / 2)) (fun _ _ => gr (j / 2)) (j % 2)) k) t

noncomputable def Tr.put {α : Type} (f : Nat) : Tr α → Nat → Option α → Tr α :=
  Nat.rec (motive := fun _ => Tr α → Nat → Option α → Tr α) (fun t _ _ => t)
    (fun _ ih t k a => Tr.rec (motive := fun _ => Tr α)
      (Nat.rec (motive := fun _ => Tr α) (.n a .e .e)
        (fun j _ => Nat.rec (motive := fun _ => Tr α) (.n none (ih .e (j / 2) a) .e) (fun _ _ => .n none .e (ih .e (j / 2) a)) (j % 2)) k)
      (fun v l r _ _ => Nat.rec (motive := fun _ => Tr α) (.n a l r)
        (fun j _ => Nat.rec (motive := fun _ => Tr α) (.n v (ih l (j / 2) a) r) (fun _ _ => .n v l (ih r (j / 2) a)) (j % 2)) k) t) f

noncomputable def Tr.set {α : Type} (t : Tr α) (k : Nat) (a : Option α) : Tr α := Tr.put (k + 1) t k a

section tr
variable {α : Type}
theorem get_e (k : Nat) : (Tr.e : Tr α).get k = none := rfl
theorem get_zero (v : Option α) (l r : Tr α) : (Tr.n v l r).get 0 = v := rfl
theorem get_succ (v : Option α) (l r : Tr α) (j : Nat) : (Tr.n v l r).get (j + 1) = if j % 2 = 0 then l.get (j / 2) else r.get (j / 2) := by
  show (Nat.rec (motive := fun _ => Option α) (l.get (j / 2)) (fun _ _ => r.get (j / 2)) (j % 2) : Option α) = _
  rcases Nat.mod_two_eq_zero_or_one j with h | h <;> rw [h] <;> rfl

theorem put_e_zero (f : Nat) (a : Option α) : Tr.put (f + 1) .e 0 a = .n a .e .e := rfl
theorem put_n_zero (f : Nat) (v a : Option α) (l r : Tr α) : Tr.put (f + 1) (.n v l r) 0 a = .n a l r := rfl
theorem put_e_succ (f j : Nat) (a : Option α) : Tr.put (f + 1) .e (j + 1) a = if j % 2 = 0 then .n none (Tr.put f .e (j / 2) a) .e else .n none .e (Tr.put f .e (j / 2) a) := by
  show (Nat.rec (motive := fun _ => Tr α) (.n none (Tr.put f .e (j / 2) a) .e) (fun _ _ => .n none .e (Tr.put f .e (j / 2) a)) (j % 2) : Tr α) = _
  rcases Nat.mod_two_eq_zero_or_one j with h | h <;> rw [h] <;> rfl
theorem put_n_succ (f j : Nat) (v a : Option α) (l r : Tr α) : Tr.put (f + 1) (.n v l r) (j + 1) a = if j % 2 = 0 then .n v (Tr.put f l (j / 2) a) r else .n v l (Tr.put f r (j / 2) a) := by
  show (Nat.rec (motive := fun _ => Tr α) (.n v (Tr.put f l (j / 2) a) r) (fun _ _ => .n v l (Tr.put f r (j / 2) a)) (j % 2) : Tr α) = _
  rcases Nat.mod_two_eq_zero_or_one j with h | h <;> rw [h] <;> rfl

theorem get_put : ∀ (f : Nat) (t : Tr α) (k : Nat) (a : Option α) (i : Nat), k < f → (Tr.put f t k a).get i = if i = k then a else t.get i
  | 0, _, _, _, _, h => absurd h (Nat.not_lt_zero _)
  | f + 1, .e, 0, a, i, _ => by
    rw [put_e_zero]
    cases i with
    | zero => simp [get_zero]
    | succ i => rw [get_succ]; simp [get_e]
  | f + 1, .n v l r, 0, a, i, _ => by
    rw [put_n_zero]
    cases i with
    | zero => simp [get_zero]
    | succ i => rw [get_succ, get_succ]; simp
  | f + 1, .e, j + 1, a, i, h => by
    rw [put_e_succ]
    have ih := get_put f (.e : Tr α) (j / 2) a
    cases i with
    | zero => split <;> simp [get_zero, get_e]
    | succ i =>
      have hj : j / 2 < f := by omega
      split <;> rename_i hm <;> rw [get_succ] <;> simp only [ih _ hj, get_e]
      · by_cases hi : i % 2 = 0
        · rw [if_pos hi]
          by_cases he : i / 2 = j / 2
          · rw [if_pos he, if_pos (by omega)]
          · rw [if_neg he, if_neg (by omega)]
        · rw [if_neg hi, if_neg (by omega)]
      · by_cases hi : i % 2 = 0
        · rw [if_pos hi, if_neg (by omega)]
        · rw [if_neg hi]
          by_cases he : i / 2 = j / 2
          · rw [if_pos he, if_pos (by omega)]
          · rw [if_neg he, if_neg (by omega)]
  | f + 1, .n v l r, j + 1, a, i, h => by
    rw [put_n_succ]
    have ihl := get_put f l (j / 2) a
    have ihr := get_put f r (j / 2) a
    cases i with
    | zero => split <;> simp [get_zero]
    | succ i =>
      have hj : j / 2 < f := by omega
      split <;> rename_i hm <;> rw [get_succ, get_succ] <;> simp only [ihl _ hj, ihr _ hj]
      · by_cases hi : i % 2 = 0
        · rw [if_pos hi, if_pos hi]
          by_cases he : i / 2 = j / 2
          · rw [if_pos he, if_pos (by omega)]
          · rw [if_neg he, if_neg (by omega)]
        · rw [if_neg hi, if_neg hi, if_neg (by omega)]
      · by_cases hi : i % 2 = 0
        · rw [if_pos hi, if_pos hi, if_neg (by omega)]
        · rw [if_neg hi, if_neg hi]
          by_cases he : i / 2 = j / 2
          · rw [if_pos he, if_pos (by omega)]
          · rw [if_neg he, if_neg (by omega)]

theorem get_set (t : Tr α) (k : Nat) (a : Option α) (i : Nat) : (t.set k a).get i = if i = k then a else t.get i :=
  get_put (k + 1) t k a i (Nat.lt_succ_self k)

/-- A list laid from a key on. -/
noncomputable def Tr.sets (t : Tr α) (k : Nat) (l : List α) : Tr α :=
  List.rec (motive := fun _ => Nat → Tr α → Tr α) (fun _ t => t) (fun a _ ih k t => ih (k + 1) (t.set k (some a))) l k t
theorem sets_nil (t : Tr α) (k : Nat) : t.sets k [] = t := rfl
theorem sets_cons (t : Tr α) (k : Nat) (a : α) (l : List α) : t.sets k (a :: l) = (t.set k (some a)).sets (k + 1) l := rfl
theorem get_sets : ∀ (l : List α) (t : Tr α) (k i : Nat), (t.sets k l).get i = if k ≤ i ∧ i < k + l.length then l[i - k]? else t.get i
  | [], t, k, i => by rw [sets_nil, if_neg (by simp)]
  | a :: l, t, k, i => by
    rw [sets_cons, get_sets l, get_set]
    by_cases h1 : k + 1 ≤ i ∧ i < k + 1 + l.length
    · rw [if_pos h1, if_pos (by simp; omega)]
      obtain ⟨d, rfl⟩ : ∃ d, i = k + 1 + d := ⟨i - (k + 1), by omega⟩
      rw [show k + 1 + d - (k + 1) = d by omega, show k + 1 + d - k = d + 1 by omega]
      rfl
    · rw [if_neg h1]
      by_cases h2 : i = k
      · subst h2; simp
      · rw [if_neg h2, if_neg (by simp; omega)]

/-- The values at some keys, one behind the other. -/
noncomputable def Tr.gets (t : Tr α) (n : Nat) : Nat → Option (List α) :=
  Nat.rec (motive := fun _ => Nat → Option (List α)) (fun _ => some [])
    (fun _ ih k => match t.get k with
      | some a => match ih (k + 1) with
        | some l => some (a :: l)
        | none => none
      | none => none) n
theorem gets_spec : ∀ (n : Nat) (t : Tr α) (k : Nat) (l : List α), t.gets n k = some l → l.length = n ∧ ∀ i, i < n → t.get (k + i) = l[i]?
  | 0, t, k, l, h => by
    have : some [] = some l := h
    injection this with this
    subst this
    exact ⟨rfl, fun i hi => absurd hi (Nat.not_lt_zero _)⟩
  | n + 1, t, k, l, h => by
    have h' : (match t.get k with
      | some a => match t.gets n (k + 1) with
        | some l => some (a :: l)
        | none => none
      | none => none) = some l := h
    cases ha : t.get k with
    | none => rw [ha] at h'; cases h'
    | some a =>
      rw [ha] at h'
      cases hr : t.gets n (k + 1) with
      | none => simp only [hr] at h'; cases h'
      | some r =>
        simp only [hr] at h'
        injection h' with h'
        subst h'
        obtain ⟨h1, h2⟩ := gets_spec n t (k + 1) r hr
        refine ⟨by simp [h1], fun i hi => ?_⟩
        cases i with
        | zero => simpa using ha
        | succ i => have := h2 i (by omega); rw [show k + (i + 1) = k + 1 + i by omega, this]; rfl
end tr
end Go.Ev
namespace Go.Ev
set_option linter.unusedVariables false

/-! Abstract values. A block's number is the evaluator's own; 'z' of a slice: how many cells an element has. -/
/-! Numbers that are not known: what they are made of. -/
structure SV where
  val : Nat → List Int → Int
  str : Nat → ByteArray

inductive SE where
  | slen (e : Nat)
  | num (n : Int)
  | app (f : Nat) (args : SE)
  | nil
  | cons (a b : SE)
  | add (a b : SE)
  | sub (a b : SE)
  | shl (a : SE) (n : Nat)
  | shr (a : SE) (n : Nat)
  | or (n : Nat) (a b : SE)
  | cv (k : IntKind) (a : SE)

def SE.ev (V : SV) : SE → Int × List Int
  | .slen e => ((V.str e).size, [])
  | .num n => (n, [])
  | .app f a => (V.val f (a.ev V).2, [])
  | .nil => (0, [])
  | .cons a b => (0, (a.ev V).1 :: (b.ev V).2)
  | .add a b => ((a.ev V).1 + (b.ev V).1, [])
  | .sub a b => ((a.ev V).1 - (b.ev V).1, [])
  | .shl a n => ((a.ev V).1 * 2 ^ n, [])
  | .shr a n => ((a.ev V).1.fdiv (2 ^ n), [])
  | .or n a b => ((BitVec.ofInt n (a.ev V).1 ||| BitVec.ofInt n (b.ev V).1).toNat, [])
  | .cv k a => (k.wrap (a.ev V).1, [])

inductive AV where
  | top
  | bool (b : Bool)
  | int (k : IntKind) (n : Int)
  | unk (k : IntKind) (lo hi : Int) (e : SE)
  | ustr (lo hi : Nat) (e : Nat)
  | str (l : List Nat)
  | nilp
  | ptr (b off : Nat)
  | nils
  | sl (b off len : Nat) (cap : Option Nat) (z : Nat)
  | nilm
  | map (b : Nat)
  | nilf
  | func (f : FuncId) (first captured : List AV)
  | yield (b : Nat)
  | nili
  | iface (t : TypeId) (v : AV)
  | agg (vs : List AV)
  | tup (vs : List AV)

def AV.flat : AV → Bool
  | .top | .agg _ | .tup _ => false
  | _ => true

def AV.cells : AV → List AV
  | .agg l => l
  | v => [v]

inductive AObj where
  | cells (c : Tr AV) (ro : Bool)
  | map (es : List (AV × AV × Nat)) (clock : Nat)
  | loop (st : LoopState) (pend : Option Code) (fn : FuncId) (t : Tr AV) (n : Nat) (params : Array Tmp) (asg body : Code)
  | defs

def AObj.wr : AObj → Bool
  | .cells _ ro => !ro
  | _ => true

inductive ADef where
  | call (f : FuncId) (cap args : List AV)
  | coll (b : Nat)

/-! Where an abstract block lies: block, first cell, how many cells are its own. -/
structure Loc where
  blk : Nat
  base : Nat
  ext : Nat

structure Em where
  loc : Nat → Option Loc
  v : SV

def Em.le (E E' : Em) : Prop := (∀ b l, E.loc b = some l → E'.loc b = some l) ∧ E'.v = E.v
def Em.fresh (E : Em) (nx : Nat) : Prop := ∀ b, nx ≤ b → E.loc b = none ∧ True
def Em.add (E : Em) (b : Nat) (l : Loc) : Em := { E with loc := fun i => if i = b then some l else E.loc i }

theorem Em.le_refl (E : Em) : E.le E := ⟨fun _ _ h => h, rfl⟩
theorem Em.le_trans {A B C : Em} (h : A.le B) (k : B.le C) : A.le C := ⟨fun b l e => k.1 b l (h.1 b l e), k.2.trans h.2⟩
theorem Em.le_add {E : Em} {b : Nat} {l : Loc} (h : E.loc b = none) : E.le (E.add b l) :=
  ⟨fun i l' hi => by
    show (if i = b then some l else E.loc i) = some l'
    rw [if_neg (fun e => by subst e; rw [h] at hi; cases hi)]; exact hi, rfl⟩
theorem Em.fresh_add {E : Em} {nx : Nat} {l : Loc} (h : E.fresh nx) : (E.add nx l).fresh (nx + 1) := fun i hi =>
  ⟨by show (if i = nx then some l else E.loc i) = none; rw [if_neg (by omega)]; exact (h i (by omega)).1, (h i (by omega)).2⟩
theorem Em.loc_add (E : Em) (b : Nat) (l : Loc) : (E.add b l).loc b = some l := if_pos rfl
theorem Em.fresh_mono {E : Em} {n n' : Nat} (h : E.fresh n) (hn : n ≤ n') : E.fresh n' := fun b hb => h b (Nat.le_trans hn hb)

mutual
inductive RV (E : Em) : AV → Value → Prop
  | top (v : Value) : RV E .top v
  | bool (b : Bool) : RV E (.bool b) (.bool b)
  | int (k : IntKind) (n : Int) : RV E (.int k n) (.int k n)
  | unk (k : IntKind) (lo hi : Int) (e : SE) (n : Int) : (e.ev E.v).1 = n → lo ≤ n → n ≤ hi → RV E (.unk k lo hi e) (.int k n)
  | ustr (lo hi : Nat) (e : Nat) (s : ByteArray) : E.v.str e = s → lo ≤ s.size → s.size ≤ hi → RV E (.ustr lo hi e) (.string s)
  | str (l : List Nat) (s : ByteArray) : s.data.toList.map (·.toNat) = l → RV E (.str l) (.string s)
  | nilp : RV E .nilp (.pointer none)
  | ptr (b off : Nat) (l : Loc) : E.loc b = some l → RV E (.ptr b off) (.pointer (some ⟨l.blk, l.base + off, none⟩))
  | nils : RV E .nils (.slice none 0 0)
  | sl (b off len : Nat) (cap : Option Nat) (z : Nat) (l : Loc) (a : Addr) (c : Nat) : E.loc b = some l → (∀ k, cap = some k → c = k) → len ≤ c → off + c * z ≤ l.ext →
      (a = ⟨l.blk, l.base + off, none⟩ ∨ c = 0) → RV E (.sl b off len cap z) (.slice (some a) len c)
  | nilm : RV E .nilm (.map none)
  | map (b : Nat) (l : Loc) : E.loc b = some l → RV E (.map b) (.map (some l.blk))
  | nilf : RV E .nilf .nilFunc
  | func (f : FuncId) (x y : List AV) (x' y' : Array Value) : RVs E x x'.toList → RVs E y y'.toList → RV E (.func f x y) (.func (.func f) x' y')
  | yield (b : Nat) (l : Loc) : E.loc b = some l → RV E (.yield b) (.func (.yield l.blk) #[] #[])
  | nili : RV E .nili .nilIface
  | iface (t : TypeId) (v : AV) (w : Value) : RV E v w → RV E (.iface t v) (.iface t w)
  | agg (vs : List AV) (ws : Array Value) : RVs E vs ws.toList → RV E (.agg vs) (.agg ws)
  | tup (vs : List AV) (ws : Array Value) : RVs E vs ws.toList → RV E (.tup vs) (.tuple ws)
inductive RVs (E : Em) : List AV → List Value → Prop
  | nil : RVs E [] []
  | cons (v : AV) (w : Value) (vs : List AV) (ws : List Value) : RV E v w → RVs E vs ws → RVs E (v :: vs) (w :: ws)
end

mutual
theorem RV.mono {E E' : Em} (h : E.le E') : ∀ {v : AV} {w : Value}, RV E v w → RV E' v w
  | _, _, .top v => .top v
  | _, _, .bool b => .bool b
  | _, _, .int k n => .int k n
  | _, _, .unk k lo hi tag n a b c => .unk k lo hi tag n (by rw [h.2]; exact a) b c
  | _, _, .ustr lo hi e s a b c => .ustr lo hi e s (by rw [h.2]; exact a) b c
  | _, _, .str l s a => .str l s a
  | _, _, .nilp => .nilp
  | _, _, .ptr b off l a => .ptr b off l (h.1 _ _ a)
  | _, _, .nils => .nils
  | _, _, .sl b off len cap z l a c p q r s t => .sl b off len cap z l a c (h.1 _ _ p) q r s t
  | _, _, .nilm => .nilm
  | _, _, .map b l a => .map b l (h.1 _ _ a)
  | _, _, .nilf => .nilf
  | _, _, .func f x y x' y' a b => .func f x y x' y' (RVs.mono h a) (RVs.mono h b)
  | _, _, .yield b l a => .yield b l (h.1 _ _ a)
  | _, _, .nili => .nili
  | _, _, .iface t v w a => .iface t v w (RV.mono h a)
  | _, _, .agg vs ws a => .agg vs ws (RVs.mono h a)
  | _, _, .tup vs ws a => .tup vs ws (RVs.mono h a)
theorem RVs.mono {E E' : Em} (h : E.le E') : ∀ {v : List AV} {w : List Value}, RVs E v w → RVs E' v w
  | _, _, .nil => .nil
  | _, _, .cons v w vs ws a b => .cons v w vs ws (RV.mono h a) (RVs.mono h b)
end

theorem RVs.length {E : Em} : ∀ {v : List AV} {w : List Value}, RVs E v w → v.length = w.length
  | _, _, .nil => rfl
  | _, _, .cons _ _ _ _ _ b => congrArg (· + 1) (RVs.length b)
theorem RVs.at {E : Em} : ∀ {v : List AV} {w : List Value}, RVs E v w → ∀ (i : Nat) x, v[i]? = some x → ∃ y, w[i]? = some y ∧ RV E x y
  | _, _, .nil, i, x, h => by simp at h
  | _, _, .cons v w vs ws a b, 0, x, h => by
    simp only [List.getElem?_cons_zero, Option.some.injEq] at h
    subst h; exact ⟨w, rfl, a⟩
  | _, _, .cons v w vs ws a b, i + 1, x, h => by
    simp only [List.getElem?_cons_succ] at h ⊢
    exact RVs.at b i x h
theorem RVs.append {E : Em} : ∀ {v v' : List AV} {w w' : List Value}, RVs E v w → RVs E v' w' → RVs E (v ++ v') (w ++ w')
  | _, _, _, _, .nil, h => h
  | _, _, _, _, .cons v w vs ws a b, h => .cons v w _ _ a (RVs.append b h)
theorem RVs.take {E : Em} : ∀ {v : List AV} {w : List Value} (n : Nat), RVs E v w → RVs E (v.take n) (w.take n)
  | _, _, 0, _ => by simpa using RVs.nil
  | _, _, n + 1, .nil => by simpa using RVs.nil
  | _, _, n + 1, .cons v w vs ws a b => .cons v w _ _ a (RVs.take n b)
theorem RVs.drop {E : Em} : ∀ {v : List AV} {w : List Value} (n : Nat), RVs E v w → RVs E (v.drop n) (w.drop n)
  | _, _, 0, h => by simpa using h
  | _, _, n + 1, .nil => by simpa using RVs.nil
  | _, _, n + 1, .cons v w vs ws a b => by simpa using RVs.drop n b
/-- From place to place. -/
theorem RVs.of {E : Em} : ∀ {v : List AV} {w : List Value}, v.length = w.length → (∀ (i : Nat) x y, v[i]? = some x → w[i]? = some y → RV E x y) → RVs E v w
  | [], [], _, _ => .nil
  | x :: v, y :: w, hl, h => .cons x y v w (h 0 x y rfl rfl) (RVs.of (by simpa using hl) (fun i a b ha hb => h (i + 1) a b (by simpa using ha) (by simpa using hb)))
theorem RVs.map {E : Em} {α : Type} (f : α → AV) (g : α → Value) : ∀ (l : List α), (∀ x ∈ l, RV E (f x) (g x)) → RVs E (l.map f) (l.map g)
  | [], _ => .nil
  | x :: l, h => .cons _ _ _ _ (h x (by simp)) (RVs.map f g l fun y hy => h y (by simp [hy]))
theorem RVs.replicate {E : Em} {v : AV} {w : Value} (h : RV E v w) : ∀ n, RVs E (List.replicate n v) (List.replicate n w)
  | 0 => .nil
  | n + 1 => .cons _ _ _ _ h (RVs.replicate h n)

theorem RV.one {E : Em} {v : AV} {w : Value} (h : RV E v w) (hv : v.flat = true) : w.oneCell' = true := by
  cases h <;> first | rfl | (simp [AV.flat] at hv)
theorem RV.cells {E : Em} {v : AV} {w : Value} (h : RV E v w) (hv : v.cells.all AV.flat = true) : RVs E v.cells w.cells.toList := by
  cases h with
  | agg vs ws h => exact h
  | tup vs ws h => simp [AV.cells, AV.flat] at hv
  | top w => simp [AV.cells, AV.flat] at hv
  | _ => exact .cons _ _ _ _ (by constructor <;> assumption) .nil

/-! The constants of the code. -/
mutual
noncomputable def ofV : Value → AV
  | .bool b => .bool b
  | .int k n => .int k n
  | .string s => .str (s.data.toList.map (·.toNat))
  | .pointer none => .nilp
  | .slice none 0 0 => .nils
  | .map none => .nilm
  | .nilFunc => .nilf
  | .func (.func f) ⟨x⟩ ⟨y⟩ => .func f (ofVs x) (ofVs y)
  | .nilIface => .nili
  | .iface t v => .iface t (ofV v)
  | .agg ⟨vs⟩ => .agg (ofVs vs)
  | .tuple ⟨vs⟩ => .tup (ofVs vs)
  | _ => .top
noncomputable def ofVs : List Value → List AV
  | [] => []
  | v :: vs => ofV v :: ofVs vs
end
mutual
theorem rv_ofV (E : Em) : ∀ v : Value, RV E (ofV v) v
  | .bool b => by simp only [ofV]; exact .bool b
  | .int k n => by simp only [ofV]; exact .int k n
  | .string s => by simp only [ofV]; exact .str _ s rfl
  | .pointer none => by simp only [ofV]; exact .nilp
  | .pointer (some a) => by simp only [ofV]; exact .top _
  | .slice none 0 0 => by simp only [ofV]; exact .nils
  | .slice none 0 (c + 1) => by simp only [ofV]; exact .top _
  | .slice none (n + 1) c => by simp only [ofV]; exact .top _
  | .slice (some a) n c => by simp only [ofV]; exact .top _
  | .map none => by simp only [ofV]; exact .nilm
  | .map (some r) => by simp only [ofV]; exact .top _
  | .nilFunc => by simp only [ofV]; exact .nilf
  | .func (.func f) ⟨x⟩ ⟨y⟩ => by simp only [ofV]; exact .func f _ _ _ _ (rvs_ofVs E x) (rvs_ofVs E y)
  | .func (.method n) x y => by simp only [ofV]; exact .top _
  | .func (.methodOf t n) x y => by simp only [ofV]; exact .top _
  | .func (.via t p f q) x y => by simp only [ofV]; exact .top _
  | .func (.yield l) x y => by simp only [ofV]; exact .top _
  | .nilIface => by simp only [ofV]; exact .nili
  | .iface t v => by simp only [ofV]; exact .iface t _ _ (rv_ofV E v)
  | .agg ⟨vs⟩ => by simp only [ofV]; exact .agg _ _ (rvs_ofVs E vs)
  | .tuple ⟨vs⟩ => by simp only [ofV]; exact .tup _ _ (rvs_ofVs E vs)
  | .float k b => by simp only [ofV]; exact .top _
  | .complex k a b => by simp only [ofV]; exact .top _
  | .chan c => by simp only [ofV]; exact .top _
theorem rvs_ofVs (E : Em) : ∀ vs : List Value, RVs E (ofVs vs) vs
  | [] => by simp only [ofVs]; exact .nil
  | v :: vs => by simp only [ofVs]; exact .cons _ _ _ _ (rv_ofV E v) (rvs_ofVs E vs)
end
end Go.Ev
namespace Go.Ev
set_option linter.unusedVariables false

/-! Temporaries, heaps, and what a step may do. -/
def RT (E : Em) (t : Tr AV) (tm : Array Value) : Prop := ∀ i v, t.get i = some v → ∃ u, tm[i]? = some u ∧ RV E v u

def REs (E : Em) : List (AV × AV × Nat) → List MapEntry → Prop
  | [], [] => True
  | (k, v, n) :: es, x :: xs => RV E k x.key ∧ RV E v x.val ∧ x.born = n ∧ REs E es xs
  | _, _ => False

def NoFz (fz : Nat × Nat) (n : Nat) : Prop := ∀ i, i < n → ¬ (fz.1 ≤ i ∧ i < fz.2)

def RObj (E : Em) (w : World) (b : Nat) : AObj → Prop
  | .cells c ro => ∃ l ca e fz, E.loc b = some l ∧ w.heap[l.blk]? = some (.cells ca e fz) ∧ l.base + l.ext ≤ ca.size ∧ (ro = false → NoFz fz ca.size) ∧
      ∀ i v, c.get i = some v → i < l.ext ∧ v.flat = true ∧ ∃ u, ca[l.base + i]? = some u ∧ RV E v u
  | .map es ck => ∃ l xs, E.loc b = some l ∧ w.heap[l.blk]? = some (.map xs ck) ∧ REs E es xs.toList
  | .loop st pend fn t n ps asg body => ∃ l tm d, E.loc b = some l ∧ w.heap[l.blk]? = some (.loop { state := st, pending := pend, fn, tmps := tm, params := ps, assign := asg, body, defers := d }) ∧ RT E t tm ∧ tm.size = n
  | .defs => ∃ l, E.loc b = some l ∧ w.heap[l.blk]? = some (.deferred (some []))

theorem RObj.loc {E : Em} {w : World} {b : Nat} {o : AObj} (h : RObj E w b o) : ∃ l, E.loc b = some l ∧ l.blk < w.heap.size := by
  cases o with
  | cells c ro => obtain ⟨l, ca, e, fz, h1, h2, _⟩ := h; exact ⟨l, h1, (Array.getElem?_eq_some_iff.1 h2).1⟩
  | map es ck => obtain ⟨l, xs, h1, h2, _⟩ := h; exact ⟨l, h1, (Array.getElem?_eq_some_iff.1 h2).1⟩
  | loop st pend fn t n ps asg body => obtain ⟨l, tm, d, h1, h2, _⟩ := h; exact ⟨l, h1, (Array.getElem?_eq_some_iff.1 h2).1⟩
  | defs => obtain ⟨l, h1, h2⟩ := h; exact ⟨l, h1, (Array.getElem?_eq_some_iff.1 h2).1⟩

theorem RT.mono {E E' : Em} (h : E.le E') {t : Tr AV} {tm : Array Value} (r : RT E t tm) : RT E' t tm := fun i v hv =>
  let ⟨u, h1, h2⟩ := r i v hv; ⟨u, h1, h2.mono h⟩
theorem REs.mono {E E' : Em} (h : E.le E') : ∀ {es : List (AV × AV × Nat)} {xs : List MapEntry}, REs E es xs → REs E' es xs
  | [], [], _ => trivial
  | (k, v, n) :: es, x :: xs, ⟨a, b, c, d⟩ => ⟨a.mono h, b.mono h, c, REs.mono h d⟩
  | [], _ :: _, h => h.elim
  | _ :: _, [], h => h.elim

theorem RObj.mono {E E' : Em} (h : E.le E') {w w' : World} {b : Nat} {o : AObj} (r : RObj E w b o) (hw : ∀ l, E.loc b = some l → w'.heap[l.blk]? = w.heap[l.blk]?) : RObj E' w' b o := by
  cases o with
  | cells c ro =>
    obtain ⟨l, ca, e, fz, h1, h2, h3, h4, h5⟩ := r
    exact ⟨l, ca, e, fz, h.1 _ _ h1, (hw l h1).trans h2, h3, h4, fun i v hv => let ⟨a, b, u, c, d⟩ := h5 i v hv; ⟨a, b, u, c, d.mono h⟩⟩
  | map es ck => obtain ⟨l, xs, h1, h2, h3⟩ := r; exact ⟨l, xs, h.1 _ _ h1, (hw l h1).trans h2, h3.mono h⟩
  | loop st pend fn t n ps asg body => obtain ⟨l, tm, d, h1, h2, h3, h4⟩ := r; exact ⟨l, tm, d, h.1 _ _ h1, (hw l h1).trans h2, h3.mono h, h4⟩
  | defs => obtain ⟨l, h1, h2⟩ := r; exact ⟨l, h.1 _ _ h1, (hw l h1).trans h2⟩

/-- The heap: each abstract block lies where it should, no two in one. -/
structure RH (E : Em) (m : Nat → Option AObj) (w : World) : Prop where
  obj : ∀ b o, m b = some o → RObj E w b o
  inj : ∀ b b' o o' l l', m b = some o → m b' = some o' → E.loc b = some l → E.loc b' = some l' → l.blk = l'.blk → b = b'

structure Gone (E : Em) (m : Nat → Option AObj) (w : World) (E' : Em) (m' : Nat → Option AObj) (w' : World) : Prop where
  le : E.le E'
  own : ∀ b o l', m' b = some o → o.wr = true → E'.loc b = some l' →
    (∃ b0 o0 l, m b0 = some o0 ∧ o0.wr = true ∧ E.loc b0 = some l ∧ l.blk = l'.blk) ∨ w.heap.size ≤ l'.blk
  frm : ∀ k, k < w.heap.size → (∀ b o l, m b = some o → o.wr = true → E.loc b = some l → l.blk ≠ k) → w'.heap[k]? = w.heap[k]?
  size : w.heap.size ≤ w'.heap.size
  os : w'.os = w.os
  tape : w'.tape = w.tape
  output : w'.output = w.output

theorem Gone.refl (E : Em) (m : Nat → Option AObj) (w : World) : Gone E m w E m w :=
  ⟨E.le_refl, fun b o l h hw hl => .inl ⟨b, o, l, h, hw, hl, rfl⟩, fun _ _ _ => rfl, Nat.le_refl _, rfl, rfl, rfl⟩

theorem Gone.trans {E E' E'' : Em} {m m' m'' : Nat → Option AObj} {w w' w'' : World} (g : Gone E m w E' m' w') (h : Gone E' m' w' E'' m'' w'') : Gone E m w E'' m'' w'' := by
  refine ⟨Em.le_trans g.le h.le, ?_, ?_, Nat.le_trans g.size h.size, h.os.trans g.os, h.tape.trans g.tape, h.output.trans g.output⟩
  · intro b o l' hm hw hl
    rcases h.own b o l' hm hw hl with ⟨b0, o0, l, h1, h2, h3, h4⟩ | h1
    · rcases g.own b0 o0 l h1 h2 h3 with ⟨b1, o1, l1, k1, k2, k3, k4⟩ | k1
      · exact .inl ⟨b1, o1, l1, k1, k2, k3, k4.trans h4⟩
      · exact .inr (h4 ▸ k1)
    · exact .inr (Nat.le_trans g.size h1)
  · intro k hk hn
    have h1 := g.frm k hk hn
    rw [← h1]
    refine h.frm k (Nat.lt_of_lt_of_le hk g.size) ?_
    intro b o l hm hw hl
    rcases g.own b o l hm hw hl with ⟨b0, o0, l0, k1, k2, k3, k4⟩ | k1
    · exact k4 ▸ hn b0 o0 l0 k1 k2 k3
    · omega

/-- Nothing but the count of draws has turned. -/
theorem Gone.of_heap {E : Em} {m : Nat → Option AObj} {w w' : World} (hh : w'.heap = w.heap) (h1 : w'.os = w.os) (h2 : w'.tape = w.tape) (h3 : w'.output = w.output) : Gone E m w E m w' :=
  ⟨E.le_refl, fun b o l h hw hl => .inl ⟨b, o, l, h, hw, hl, rfl⟩, fun k _ _ => by rw [hh], by rw [hh]; exact Nat.le_refl _, h1, h2, h3⟩

theorem RH.of_heap {E : Em} {m : Nat → Option AObj} {w w' : World} (h : RH E m w) (hh : w'.heap = w.heap) : RH E m w' :=
  ⟨fun b o hb => (h.obj b o hb).mono E.le_refl (fun l _ => by rw [hh]), h.inj⟩

/-- Fewer blocks. -/
theorem RH.sub {E : Em} {m m' : Nat → Option AObj} {w : World} (h : RH E m w) (hs : ∀ b o, m' b = some o → m b = some o) : RH E m' w :=
  ⟨fun b o hb => h.obj b o (hs b o hb), fun b b' o o' l l' hb hb' => h.inj b b' o o' l l' (hs _ _ hb) (hs _ _ hb')⟩

/-- A new block. -/
theorem RH.alloc {E : Em} {m : Nat → Option AObj} {w w' : World} {nx : Nat} {o : AObj} {ob : Obj} {x : Nat} (h : RH E m w) (hf : E.loc nx = none) (hw : w'.heap = w.heap.push ob)
    (ho : RObj (E.add nx ⟨w.heap.size, 0, x⟩) w' nx o) : RH (E.add nx ⟨w.heap.size, 0, x⟩) (fun b => if b = nx then some o else m b) w' := by
  have hold : ∀ k, k < w.heap.size → w'.heap[k]? = w.heap[k]? := fun k hk => by rw [hw, Array.getElem?_push, if_neg (by omega)]
  have hne : ∀ b o', m b = some o' → b ≠ nx := fun b o' hb e => by
    obtain ⟨l, hl, _⟩ := (h.obj b o' hb).loc
    rw [e, hf] at hl; cases hl
  have hlt : ∀ b o' l, m b = some o' → (E.add nx ⟨w.heap.size, 0, x⟩).loc b = some l → E.loc b = some l ∧ l.blk < w.heap.size := fun b o' l hb hl => by
    obtain ⟨l', hl', hk⟩ := (h.obj b o' hb).loc
    have := (Em.le_add (l := ⟨w.heap.size, 0, x⟩) hf).1 _ _ hl'
    rw [this] at hl
    injection hl with hl
    subst hl
    exact ⟨hl', hk⟩
  constructor
  · intro b o' hb
    by_cases e : b = nx
    · subst e
      simp only [if_true, Option.some.injEq] at hb
      subst hb; exact ho
    · simp only [if_neg e] at hb
      refine (h.obj b o' hb).mono (Em.le_add hf) (fun l hl => hold _ ?_)
      obtain ⟨l', hl', hk⟩ := (h.obj b o' hb).loc
      rw [hl] at hl'
      injection hl' with hl'
      exact hl' ▸ hk
  · intro b b' o1 o2 l l' hb hb' hl hl' he
    by_cases e : b = nx <;> by_cases e' : b' = nx
    · rw [e, e']
    · simp only [if_neg e'] at hb'
      subst e
      rw [Em.loc_add] at hl
      injection hl with hl
      have := (hlt b' o2 l' hb' hl').2
      rw [← he, ← hl] at this
      exact absurd this (Nat.lt_irrefl _)
    · simp only [if_neg e] at hb
      subst e'
      rw [Em.loc_add] at hl'
      injection hl' with hl'
      have := (hlt b o1 l hb hl).2
      rw [he, ← hl'] at this
      exact absurd this (Nat.lt_irrefl _)
    · simp only [if_neg e] at hb
      simp only [if_neg e'] at hb'
      exact h.inj b b' o1 o2 l l' hb hb' (hlt b o1 l hb hl).1 (hlt b' o2 l' hb' hl').1 he

theorem Gone.alloc {E : Em} {m : Nat → Option AObj} {w w' : World} {nx : Nat} {o : AObj} {ob : Obj} {x : Nat} (h : RH E m w) (hf : E.loc nx = none) (hw : w'.heap = w.heap.push ob)
    (h1 : w'.os = w.os) (h2 : w'.tape = w.tape) (h3 : w'.output = w.output) : Gone E m w (E.add nx ⟨w.heap.size, 0, x⟩) (fun b => if b = nx then some o else m b) w' := by
  refine ⟨Em.le_add hf, ?_, fun k hk _ => by rw [hw, Array.getElem?_push, if_neg (by omega)], by rw [hw]; simp, h1, h2, h3⟩
  intro b o' l' hb hwr hl
  by_cases e : b = nx
  · subst e
    rw [Em.loc_add] at hl
    injection hl with hl
    exact .inr (hl ▸ Nat.le_refl _)
  · simp only [if_neg e] at hb
    obtain ⟨l, hl0, _⟩ := (h.obj b o' hb).loc
    have := (Em.le_add (l := ⟨w.heap.size, 0, x⟩) hf).1 _ _ hl0
    rw [this] at hl
    injection hl with hl
    exact .inl ⟨b, o', l, hb, hwr, hl0, by rw [hl]⟩

/-- A block written in place: its number may be another one than before (append in place). -/
theorem RH.write {E E' : Em} {m m' : Nat → Option AObj} {w w' : World} {b b' : Nat} {o o' : AObj} {l : Loc} (h : RH E m w) (hle : E.le E') (hb : m b = some o) (hl : E.loc b = some l)
    (hother : ∀ k, k ≠ l.blk → w'.heap[k]? = w.heap[k]?) (hm : ∀ i p, m' i = some p → (i = b' ∧ p = o') ∨ (i ≠ b ∧ m i = some p))
    (hl' : ∀ q, E'.loc b' = some q → q.blk = l.blk) (ho : RObj E' w' b' o') : RH E' m' w' := by
  have hold : ∀ i p, i ≠ b → m i = some p → ∀ q, E.loc i = some q → q.blk ≠ l.blk := fun i p hi hp q hq e => hi (h.inj i b p o q l hp hb hq hl e)
  constructor
  · intro i p hp
    rcases hm i p hp with ⟨rfl, rfl⟩ | ⟨hi, hp⟩
    · exact ho
    · exact (h.obj i p hp).mono hle (fun q hq => hother _ (hold i p hi hp q hq))
  · intro i j p q l1 l2 hi hj h1 h2 he
    have lift : ∀ i p l1, i ≠ b → m i = some p → E'.loc i = some l1 → E.loc i = some l1 := fun i p l1 hi hp h1 => by
      obtain ⟨l0, hl0, _⟩ := (h.obj i p hp).loc
      have := hle.1 _ _ hl0
      rw [this] at h1
      exact h1 ▸ hl0
    rcases hm i p hi with ⟨rfl, rfl⟩ | ⟨hib, hip⟩ <;> rcases hm j q hj with ⟨rfl, rfl⟩ | ⟨hjb, hjq⟩
    · rfl
    · have := hl' l1 h1
      exact absurd (he.symm.trans this) (hold j q hjb hjq l2 (lift j q l2 hjb hjq h2))
    · have := hl' l2 h2
      exact absurd (he.trans this) (hold i p hib hip l1 (lift i p l1 hib hip h1))
    · exact h.inj i j p q l1 l2 hip hjq (lift i p l1 hib hip h1) (lift j q l2 hjb hjq h2) he

theorem Gone.write {E E' : Em} {m m' : Nat → Option AObj} {w w' : World} {b b' : Nat} {o o' : AObj} {l : Loc} (h : RH E m w) (hle : E.le E') (hb : m b = some o) (hwr : o.wr = true) (hl : E.loc b = some l)
    (hother : ∀ k, k ≠ l.blk → w'.heap[k]? = w.heap[k]?) (hm : ∀ i p, m' i = some p → (i = b' ∧ p = o') ∨ (i ≠ b ∧ m i = some p))
    (hl' : ∀ q, E'.loc b' = some q → q.blk = l.blk) (hs : w'.heap.size = w.heap.size) (h1 : w'.os = w.os) (h2 : w'.tape = w.tape) (h3 : w'.output = w.output) : Gone E m w E' m' w' := by
  refine ⟨hle, ?_, fun k hk hn => hother k (fun e => hn b o l hb hwr hl e.symm), by rw [hs]; exact Nat.le_refl _, h1, h2, h3⟩
  intro i p q hp hw hq
  rcases hm i p hp with ⟨rfl, rfl⟩ | ⟨hi, hp⟩
  · exact .inl ⟨b, o, l, hb, hwr, hl, (hl' q hq).symm⟩
  · obtain ⟨l0, hl0, _⟩ := (h.obj i p hp).loc
    have := hle.1 _ _ hl0
    rw [this] at hq
    injection hq with hq
    exact .inl ⟨i, p, l0, hp, hw, hl0, by rw [hq]⟩

/-- A cell that is read. -/
theorem RH.cell {E : Em} {m : Nat → Option AObj} {w : World} (h : RH E m w) {b off : Nat} {c : Tr AV} {ro : Bool} {v : AV} {l : Loc} (hb : m b = some (.cells c ro)) (hc : c.get off = some v) (hl : E.loc b = some l) :
    v.flat = true ∧ ∃ u, w.cell? ⟨l.blk, l.base + off, none⟩ = some u ∧ RV E v u := by
  obtain ⟨l', ca, e, fz, h1, h2, h3, h4, h5⟩ := h.obj b _ hb
  rw [hl] at h1
  injection h1 with h1
  subst h1
  obtain ⟨_, hf, u, hu, hv⟩ := h5 off v hc
  exact ⟨hf, u, by simp only [World.cell?, h2]; exact hu, hv⟩

theorem run_loadCells' (P : Program) (w : World) (r p : Nat) : ∀ (n i : Nat) (acc : Array Value) (us : List Value), us.length = n → (∀ j, j < n → w.cell? ⟨r, p + (i + j), none⟩ = us[j]?) →
    (loadCellsFrom ⟨r, p, none⟩ i n acc).run P w = .ok (acc ++ us.toArray) w
  | 0, i, acc, us, hl, _ => by
    have : us = [] := List.eq_nil_of_length_eq_zero hl
    subst this
    simp [loadCellsFrom]
  | n + 1, i, acc, u :: us, hl, h => by
    have h0 : w.cell? ⟨r, p + i, none⟩ = some u := by simpa using h 0 (by omega)
    have ih := run_loadCells' P w r p n (i + 1) (acc.push u) us (by simpa using hl) (fun j hj => by
      have := h (j + 1) (by omega)
      rw [show i + (j + 1) = i + 1 + j by omega] at this
      simpa using this)
    simp only [loadCellsFrom, Sem.run_bind, run_load, Addr.add_lit, h0, Result.andThen_ok, ih]
    simp
  | n + 1, i, acc, [], hl, _ => by simp at hl

/-- Cells that are read. -/
theorem RH.cells {E : Em} {m : Nat → Option AObj} {w : World} (h : RH E m w) {b off n : Nat} {c : Tr AV} {ro : Bool} {vs : List AV} {l : Loc} (hb : m b = some (.cells c ro)) (hc : c.gets n off = some vs) (hl : E.loc b = some l) :
    vs.all AV.flat = true ∧ ∃ us : List Value, us.length = n ∧ RVs E vs us ∧ (∀ j, j < n → w.cell? ⟨l.blk, l.base + (off + j), none⟩ = us[j]?) := by
  obtain ⟨h1, h2⟩ := gets_spec n c off vs hc
  have key : ∀ j (hj : j < n), ∃ u, w.cell? ⟨l.blk, l.base + (off + j), none⟩ = some u ∧ RV E (vs[j]'(by omega)) u ∧ (vs[j]'(by omega)).flat = true := fun j hj => by
    have := h2 j hj
    rw [List.getElem?_eq_getElem (by omega)] at this
    obtain ⟨hf, u, hu, hv⟩ := h.cell hb this hl
    exact ⟨u, hu, hv, hf⟩
  refine ⟨List.all_eq_true.2 fun v hv => ?_, (List.range n).map (fun j => (w.cell? ⟨l.blk, l.base + (off + j), none⟩).getD undef), by simp, ?_, ?_⟩
  · obtain ⟨j, hj, rfl⟩ := List.getElem_of_mem hv
    exact (key j (h1 ▸ hj)).choose_spec.2.2
  · refine RVs.of (by simp [h1]) fun i x y hx hy => ?_
    have hi : i < n := by
      have := (List.getElem?_eq_some_iff.1 hx).1
      omega
    obtain ⟨u, hu, hv, _⟩ := key i hi
    have hx' : vs[i]'(by omega) = x := (List.getElem?_eq_some_iff.1 hx).2
    simp only [List.getElem?_map, List.getElem?_range hi, Option.map_some, Option.some.injEq, hu, Option.getD_some] at hy
    exact hy ▸ hx' ▸ hv
  · intro j hj
    obtain ⟨u, hu, _, _⟩ := key j hj
    simp [List.getElem?_range hj, hu]

/-- Cells that are written. -/
theorem run_storeCells' (P : Program) (r p : Nat) (e : TypeId) (fz : Nat × Nat) : ∀ (vs : List Value) (i : Nat) (ca : Array Value) (w : World), w.heap[r]? = some (.cells ca e fz) → p + i + vs.length ≤ ca.size → NoFz fz ca.size →
    (∀ v ∈ vs, v.oneCell' = true) → ∃ ca' w', (storeCells ⟨r, p, none⟩ vs i).run P w = .ok () w' ∧ w'.heap[r]? = some (.cells ca' e fz) ∧ ca'.size = ca.size ∧
      (∀ j, ca'[j]? = if p + i ≤ j ∧ j < p + i + vs.length then vs[j - (p + i)]? else ca[j]?) ∧ (∀ k, k ≠ r → w'.heap[k]? = w.heap[k]?) ∧ w'.heap.size = w.heap.size ∧ w'.os = w.os ∧ w'.tape = w.tape ∧ w'.output = w.output
  | [], i, ca, w, h, _, _, _ => ⟨ca, w, by simp [storeCells], h, rfl, fun j => by rw [if_neg (by simp)], fun _ _ => rfl, rfl, rfl, rfl, rfl⟩
  | v :: vs, i, ca, w, h, hs, hz, ho => by
    simp only [List.length_cons] at hs
    have hv := ho v (by simp)
    have hc : w.cell? ⟨r, p + i, none⟩ = some (ca[p + i]'(by omega)) := by simp [World.cell?, h]
    have hfz : w.frozen? ⟨r, p + i, none⟩ = false := by
      have := hz (p + i) (by omega)
      simp only [World.frozen?, h]
      simpa using this
    have hr : r < w.heap.size := (Array.getElem?_eq_some_iff.1 h).1
    have h1 : (w.setCell ⟨r, p + i, none⟩ v).heap[r]? = some (.cells (ca.setIfInBounds (p + i) v) e fz) := by
      simp only [World.setCell, Array.getElem?_modify, if_true, h, Option.map_some]
      simp
    obtain ⟨ca', w', k1, k2, k3, k4, k5, k6, k7, k8, k9⟩ := run_storeCells' P r p e fz vs (i + 1) (ca.setIfInBounds (p + i) v) (w.setCell ⟨r, p + i, none⟩ v) h1 (by simp; omega) (by simpa using hz) (fun u hu => ho u (by simp [hu]))
    refine ⟨ca', w', ?_, k2, by simpa using k3, ?_, ?_, by simpa using k6, k7, k8, k9⟩
    · simp only [storeCells, Sem.run_bind, Addr.add_lit, run_store _ _ _ _ _ hv, hc, hfz, Bool.false_eq_true, if_false, Result.andThen_ok]
      exact k1
    · intro j
      rw [k4 j]
      by_cases c1 : p + (i + 1) ≤ j ∧ j < p + (i + 1) + vs.length
      · rw [if_pos c1, if_pos (by simp; omega)]
        obtain ⟨d, rfl⟩ : ∃ d, j = p + (i + 1) + d := ⟨j - (p + (i + 1)), by omega⟩
        rw [show p + (i + 1) + d - (p + (i + 1)) = d by omega, show p + (i + 1) + d - (p + i) = d + 1 by omega]
        rfl
      · rw [if_neg c1]
        by_cases c2 : j = p + i
        · subst c2
          rw [if_pos (by simp), Nat.sub_self]
          simp [show p + i < ca.size by omega]
        · rw [if_neg (by simp; omega), Array.getElem?_setIfInBounds_ne (fun e => c2 e.symm)]
    · intro k hk
      rw [k5 k hk]
      simp only [World.setCell, Array.getElem?_modify, if_neg (Ne.symm hk)]
end Go.Ev
namespace Go.Ev
set_option linter.unusedVariables false
set_option linter.unusedSimpArgs false

/-! Numbers. -/
def ik : IntKind → Nat
  | .i8 => 0 | .i16 => 1 | .i32 => 2 | .i64 => 3 | .u8 => 4 | .u16 => 5 | .u32 => 6 | .u64 => 7
theorem ik_inj {a b : IntKind} (h : Nat.beq (ik a) (ik b) = true) : a = b := by
  cases a <;> cases b <;> first | rfl | (simp [ik] at h)

def ltI : Int → Int → Bool
  | .ofNat a, .ofNat b => Nat.blt a b
  | .negSucc _, .ofNat _ => true
  | .ofNat _, .negSucc _ => false
  | .negSucc a, .negSucc b => Nat.blt b a
theorem ltI_eq (a b : Int) : ltI a b = decide (a < b) := by
  cases a <;> cases b <;> simp only [ltI]
  · rename_i a b
    rw [Bool.eq_iff_iff]; simp [Nat.blt, Nat.lt_iff_add_one_le]
  · rename_i a b
    rw [Bool.eq_iff_iff]; simp; omega
  · rename_i a b
    rw [Bool.eq_iff_iff]; simp; omega
  · rename_i a b
    rw [Bool.eq_iff_iff]; simp [Nat.blt]; omega
def eqI : Int → Int → Bool
  | .ofNat a, .ofNat b => Nat.beq a b
  | .negSucc a, .negSucc b => Nat.beq a b
  | _, _ => false
theorem eqI_eq (a b : Int) : eqI a b = (a == b) := by
  cases a <;> cases b <;> simp only [eqI] <;> rw [Bool.eq_iff_iff] <;> simp <;> omega

def lim : IntKind → Nat
  | .i8 => 128 | .i16 => 32768 | .i32 => 2147483648 | .i64 => 9223372036854775808
  | .u8 => 256 | .u16 => 65536 | .u32 => 4294967296 | .u64 => 18446744073709551616
def wrapF (k : IntKind) (n : Int) : Int :=
  match n with
  | .ofNat a => (match Nat.blt a (lim k) with | true => .ofNat a | false => k.wrap (.ofNat a))
  | .negSucc a => (match k.signed && Nat.blt a (lim k) with | true => .negSucc a | false => k.wrap (.negSucc a))
theorem wrapF_eq (k : IntKind) (n : Int) : wrapF k n = k.wrap n := by
  cases n with
  | ofNat a =>
    simp only [wrapF]
    split
    · rename_i h
      simp only [Nat.blt, Nat.ble_eq] at h
      cases k <;> simp only [lim] at h <;> simp [IntKind.wrap, IntKind.bits, IntKind.signed] <;> omega
    · rfl
  | negSucc a =>
    simp only [wrapF]
    split
    · rename_i h
      simp only [Bool.and_eq_true, Nat.blt, Nat.ble_eq] at h
      obtain ⟨h0, h⟩ := h
      have e := Int.negSucc_eq a
      cases k
      case i8 => simp only [lim] at h; exact (IntWalk.i8_in _ (by omega)).symm
      case i16 => simp only [lim] at h; exact (IntWalk.i16_in _ (by omega)).symm
      case i32 => simp only [lim] at h; exact (IntWalk.i32_in _ (by omega)).symm
      case i64 => simp only [lim] at h; exact (IntWalk.i64_in _ (by omega)).symm
      all_goals cases h0
    · rfl

/-- The number brought to a numeral ahead of going on. -/
noncomputable def force {α : Type} (n : Int) (f : Int → α) : α :=
  match n with
  | .ofNat a => Nat.rec (motive := fun _ => α) (f (.ofNat 0)) (fun m _ => f (.ofNat (m + 1))) a
  | .negSucc a => Nat.rec (motive := fun _ => α) (f (.negSucc 0)) (fun m _ => f (.negSucc (m + 1))) a
theorem force_eq {α : Type} (n : Int) (f : Int → α) : force n f = f n := by
  cases n with
  | ofNat a => cases a <;> rfl
  | negSucc a => cases a <;> rfl

def eqL : List Nat → List Nat → Bool
  | [], [] => true
  | a :: x, b :: y => (match Nat.beq a b with | true => eqL x y | false => false)
  | _, _ => false
theorem eqL_eq : ∀ x y : List Nat, eqL x y = (x == y)
  | [], [] => rfl
  | [], _ :: _ => rfl
  | _ :: _, [] => rfl
  | a :: x, b :: y => by
    simp only [eqL, eqL_eq x y]
    cases h : Nat.beq a b
    · have : a ≠ b := fun e => by subst e; simp at h
      simp [this]
    · have : a = b := Nat.eq_of_beq_eq_true h
      simp [this]
def ltL : List Nat → List Nat → Bool
  | _, [] => false
  | [], _ :: _ => true
  | a :: x, b :: y => (match Nat.blt a b with | true => true | false => (match Nat.beq a b with | true => ltL x y | false => false))
theorem ltL_eq : ∀ x y : List UInt8, ltL (x.map (·.toNat)) (y.map (·.toNat)) = Op.bytesLess x y
  | _, [] => by simp [ltL, Op.bytesLess]
  | [], _ :: _ => by simp [ltL, Op.bytesLess]
  | a :: x, b :: y => by
    simp only [List.map_cons, ltL, Op.bytesLess, ltL_eq x y]
    cases h1 : Nat.blt a.toNat b.toNat
    · have h1' : ¬ a < b := by
        simp only [Nat.blt] at h1
        intro h
        have := UInt8.lt_iff_toNat_lt.1 h
        have h2 := Nat.ble_eq_true_of_le (show a.toNat.succ ≤ b.toNat from this)
        rw [h2] at h1; cases h1
      simp only [h1', decide_false, Bool.false_or]
      cases h2 : Nat.beq a.toNat b.toNat
      · have : a ≠ b := fun e => by subst e; simp at h2
        simp [this]
      · have : a = b := UInt8.toNat_inj.1 (Nat.eq_of_beq_eq_true h2)
        simp [this]
    · have h1' : a < b := by
        simp only [Nat.blt] at h1
        exact UInt8.lt_iff_toNat_lt.2 (Nat.le_of_ble_eq_true h1)
      simp [h1']

theorem str_eq {s t : ByteArray} : (s.toList == t.toList) = (s.data.toList.map (·.toNat) == t.data.toList.map (·.toNat)) := by
  rw [Lib.toList_data, Lib.toList_data, Bool.eq_iff_iff, beq_iff_eq, beq_iff_eq]
  constructor
  · intro h; rw [h]
  · intro h
    exact (List.map_inj_right (fun a b h => UInt8.toNat_inj.1 h)).1 h

/-! Two operands. 'c': one of them is a constant of the text. -/
noncomputable def same (k k' : IntKind) (r : Option AV) : Option AV := match Nat.beq (ik k) (ik k') with | true => r | false => none
noncomputable def intR (k : IntKind) (n : Int) : Option AV := force (wrapF k n) fun r => some (.int k r)
noncomputable def bitsR (k : IntKind) (f : (n : Nat) → BitVec n → BitVec n → BitVec n) (x y : Int) : Option AV :=
  force (wrapF k (.ofNat (f k.bits (BitVec.ofInt k.bits x) (BitVec.ofInt k.bits y)).toNat)) fun r => some (.int k r)

noncomputable def eqA (u : TypeDesc) (c : Bool) (x y : AV) : Option Bool :=
  match x, y with
  | .int k a, .int k' b => (match Nat.beq (ik k) (ik k') with | true => some (eqI a b) | false => none)
  | .str a, .str b => some (eqL a b)
  | .bool a, .bool b => (match u with | .bool => some (a == b) | _ => none)
  | .nilp, .nilp => (match u with | .pointer _ => some true | _ => none)
  | .nilp, .ptr _ _ => (match u with | .pointer _ => some false | _ => none)
  | .ptr _ _, .nilp => (match u with | .pointer _ => some false | _ => none)
  | .nils, .nils => (match u with | .slice _ => some true | _ => none)
  | .nils, .sl _ _ _ _ _ => (match u with | .slice _ => some false | _ => none)
  | .sl _ _ _ _ _, .nils => (match u with | .slice _ => some false | _ => none)
  | .nilm, .nilm => (match u with | .map _ _ => some true | _ => none)
  | .nilm, .map _ => (match u with | .map _ _ => some false | _ => none)
  | .map _, .nilm => (match u with | .map _ _ => some false | _ => none)
  | .nilf, .nilf => (match u with | .func _ _ _ => some true | _ => none)
  | .nilf, .func _ _ _ => (match u with | .func _ _ _ => some false | _ => none)
  | .func _ _ _, .nilf => (match u with | .func _ _ _ => some false | _ => none)
  | .nili, .nili => (match c, u with | true, .interface _ => some true | _, _ => none)
  | .nili, .iface _ _ => (match u with | .interface _ => some false | _ => none)
  | .iface _ _, .nili => (match u with | .interface _ => some false | _ => none)
  | _, _ => none

noncomputable def binA (u : TypeDesc) (c : Bool) (op : BinOp) (x y : AV) : Option AV :=
  match op with
  | .eql => (match eqA u c x y with | some b => some (.bool b) | none => none)
  | .neq => (match eqA u c x y with | some b => some (.bool (!b)) | none => none)
  | .add => (match x, y with
    | .int k a, .int k' b => same k k' (intR k (a + b))
    | .str a, .str b => (match Nat.blt (a.length + b.length) 1000000000 with | true => some (.str (a ++ b)) | false => none)
    | _, _ => none)
  | .sub => (match x, y with | .int k a, .int k' b => same k k' (intR k (a - b)) | _, _ => none)
  | .mul => (match x, y with | .int k a, .int k' b => same k k' (intR k (a * b)) | _, _ => none)
  | .quo => (match x, y with | .int k a, .int k' b => same k k' (match eqI b 0 with | true => none | false => intR k (a.tdiv b)) | _, _ => none)
  | .rem => (match x, y with | .int k a, .int k' b => same k k' (match eqI b 0 with | true => none | false => force (a.tmod b) fun r => some (.int k r)) | _, _ => none)
  | .and => (match x, y with | .int k a, .int k' b => same k k' (bitsR k (fun n p q => p &&& q) a b) | _, _ => none)
  | .or => (match x, y with | .int k a, .int k' b => same k k' (bitsR k (fun n p q => p ||| q) a b) | _, _ => none)
  | .xor => (match x, y with | .int k a, .int k' b => same k k' (bitsR k (fun n p q => p ^^^ q) a b) | _, _ => none)
  | .andNot => (match x, y with | .int k a, .int k' b => same k k' (bitsR k (fun n p q => p &&& ~~~q) a b) | _, _ => none)
  | .shl => (match x, y with | .int k a, .int _ b => (match ltI b 0 with | true => none | false => intR k (a * 2 ^ (Nat.min b.toNat k.bits))) | _, _ => none)
  | .shr => (match x, y with | .int k a, .int _ b => (match ltI b 0 with | true => none | false => force (a.fdiv (2 ^ (Nat.min b.toNat k.bits))) fun r => some (.int k r)) | _, _ => none)
  | .lss => (match x, y with
    | .int k a, .int k' b => same k k' (some (.bool (ltI a b)))
    | .str a, .str b => some (.bool (ltL a b)) | _, _ => none)
  | .leq => (match x, y with
    | .int k a, .int k' b => same k k' (some (.bool (!ltI b a)))
    | .str a, .str b => some (.bool (ltL a b || eqL a b)) | _, _ => none)
  | .gtr => (match x, y with
    | .int k a, .int k' b => same k k' (some (.bool (ltI b a)))
    | .str a, .str b => some (.bool (!(ltL a b || eqL a b))) | _, _ => none)
  | .geq => (match x, y with
    | .int k a, .int k' b => same k k' (some (.bool (!ltI a b)))
    | .str a, .str b => some (.bool (!ltL a b)) | _, _ => none)

theorem same_spec {k k' : IntKind} {r : Option AV} {v : AV} (h : same k k' r = some v) : k = k' ∧ r = some v := by
  unfold same at h
  split at h
  · rename_i hk; exact ⟨ik_inj hk, h⟩
  · cases h
theorem intR_spec {k : IntKind} {n : Int} {v : AV} (h : intR k n = some v) : v = .int k (k.wrap n) := by
  unfold intR at h
  rw [force_eq, wrapF_eq] at h
  injection h with h; exact h.symm
theorem bitsR_spec {k : IntKind} {f : (n : Nat) → BitVec n → BitVec n → BitVec n} {x y : Int} {v : AV} (h : bitsR k f x y = some v) :
    v = .int k (k.wrap (f k.bits (BitVec.ofInt k.bits x) (BitVec.ofInt k.bits y)).toNat) := by
  unfold bitsR at h
  rw [force_eq, wrapF_eq] at h
  injection h with h; exact h.symm

theorem eqA_sound {E : Em} {P : Program} {t : TypeId} {u : TypeDesc} {c : Bool} {x y : AV} {a b : Value} {r : Bool} (hu : P.underlying t = some u) (h : eqA u c x y = some r) (hx : RV E x a) (hy : RV E y b) (w : World) :
    ((∃ k n k' n', a = .int k n ∧ b = .int k' n' ∧ k = k' ∧ r = (n == n')) ∨ (∃ s s', a = .string s ∧ b = .string s' ∧ r = (s.toList == s'.toList)) ∨
      ((∀ k n, a ≠ .int k n) ∧ (∀ s, a ≠ .string s) ∧ (∀ k n, a ≠ .float k n) ∧ (∀ k n m, a ≠ .complex k n m) ∧ (Op.equal t a b).run P w = .ok r w)) ∧ ((a = .nilIface ∧ b = .nilIface) → c = true) ∧ (∀ vs, a ≠ .agg vs) := by
  unfold eqA at h
  have key : ∀ q : Sem Bool, Op.equal t a b = q → Op.equalIn Op.maxDepth t a b = q := fun q h => h
  split at h
  case h_1 =>
    cases hx; cases hy
    split at h
    · rename_i hk
      injection h with h
      refine ⟨.inl ⟨_, _, _, _, rfl, rfl, ik_inj hk, ?_⟩, (by rintro ⟨h, _⟩; cases h), by simp⟩
      rw [← h, eqI_eq]
    · cases h
  case h_2 =>
    cases hx with
    | str l s h1 =>
      cases hy with
      | str l' s' h2 =>
        injection h with h
        refine ⟨.inr (.inl ⟨_, _, rfl, rfl, ?_⟩), (by rintro ⟨h, _⟩; cases h), by simp⟩
        rw [← h, eqL_eq, str_eq, h1, h2]
  all_goals try (cases h; done)
  all_goals
    cases hx
    cases hy
    split at h <;> first
      | (cases h; done)
      | (injection h with h
         subst h
         refine ⟨.inr (.inr ⟨by simp, by simp, by simp, by simp, ?_⟩), (by first | (rintro ⟨h, _⟩; cases h; done) | (rintro ⟨_, h⟩; cases h; done) | exact fun _ => rfl), by simp⟩
         have hd : ∀ a b, Op.equal t a b = Op.equalIn (9999 + 1) t a b := fun _ _ => rfl
         rw [hd]
         generalize 9999 = d
         unfold Op.equalIn
         simp [run_underlying hu])

theorem binA_sound {E : Em} {P : Program} {t : TypeId} {u : TypeDesc} {c : Bool} {op : BinOp} {x y : AV} {a b : Value} {v : AV} {xo yo : Operand} (hu : P.underlying t = some u) (h : binA u c op x y = some v)
    (hx : RV E x a) (hy : RV E y b) (hc : c = true → (xo matches .const _) || (yo matches .const _)) (w : World) :
    ∃ v', (do eqGuard op t xo yo a b; binOp op t a b : Sem Value).run P w = .ok v' w ∧ RV E v v' := by
  unfold binA at h
  split at h
  case h_1 =>
    split at h
    · rename_i r hr
      injection h with h
      subst h
      obtain ⟨h1, h2, h3⟩ := eqA_sound hu hr hx hy w
      have hg : (eqGuard .eql t xo yo a b).run P w = .ok () w := by
        by_cases hn : a = .nilIface ∧ b = .nilIface
        · have := hc (h2 hn)
          obtain ⟨rfl, rfl⟩ := hn
          cases xo <;> cases yo <;> simp_all [eqGuard]
        · cases a <;> first | (exfalso; exact h3 _ rfl) | (cases b <;> first | rfl | (exfalso; exact hn ⟨rfl, rfl⟩))
      rcases h1 with ⟨k, n, k', n', rfl, rfl, rfl, rfl⟩ | ⟨s, s', rfl, rfl, rfl⟩ | ⟨n1, n2, n3, n4, h1⟩
      · exact ⟨_, by simp [hg, binOp_eql], .bool _⟩
      · exact ⟨_, by simp [hg, binOp, Op.stringOp], .bool _⟩
      · refine ⟨_, ?_, .bool _⟩
        have : binOp .eql t a b = (do pure (.bool (← Op.equal t a b))) := by
          cases a <;> first | rfl | (exfalso; first | exact n1 _ _ rfl | exact n2 _ rfl | exact n3 _ _ rfl | exact n4 _ _ _ rfl)
        simp [hg, this, h1]
    · cases h
  case h_2 =>
    split at h
    · rename_i r hr
      injection h with h
      subst h
      obtain ⟨h1, h2, h3⟩ := eqA_sound hu hr hx hy w
      have hg : (eqGuard .neq t xo yo a b).run P w = .ok () w := by
        by_cases hn : a = .nilIface ∧ b = .nilIface
        · have := hc (h2 hn)
          obtain ⟨rfl, rfl⟩ := hn
          cases xo <;> cases yo <;> simp_all [eqGuard]
        · cases a <;> first | (exfalso; exact h3 _ rfl) | (cases b <;> first | rfl | (exfalso; exact hn ⟨rfl, rfl⟩))
      rcases h1 with ⟨k, n, k', n', rfl, rfl, rfl, rfl⟩ | ⟨s, s', rfl, rfl, rfl⟩ | ⟨n1, n2, n3, n4, h1⟩
      · exact ⟨_, by simp [hg, binOp_neq, bne], .bool _⟩
      · exact ⟨_, by simp [hg, binOp, Op.stringOp], .bool _⟩
      · refine ⟨_, ?_, .bool _⟩
        have : binOp .neq t a b = (do pure (.bool (!(← Op.equal t a b)))) := by
          cases a <;> first | rfl | (exfalso; first | exact n1 _ _ rfl | exact n2 _ rfl | exact n3 _ _ rfl | exact n4 _ _ _ rfl)
        simp [hg, this, h1]
    · cases h
  case h_3 =>
    split at h
    · cases hx; cases hy
      obtain ⟨hk, h'⟩ := same_spec h
      clear h
      have h := h'
      clear h'
      subst hk
      rw [intR_spec h]
      exact ⟨_, by simp [eqGuard_add, binOp_add, Op.intArith], .int _ _⟩
    · cases hx with
      | str l s h1 =>
        cases hy with
        | str l' s' h2 =>
          split at h
          · rename_i hlt
            injection h with h
            have hs : s.size + s'.size ≤ 1000000000 := by
              rw [← h1, ← h2] at hlt
              have := Nat.le_of_ble_eq_true hlt
              simp at this
              omega
            have hn : ¬ (9223372036854775807 < (s.size : Int) + s'.size) := by omega
            refine ⟨.string (s ++ s'), by simp [eqGuard_add, binOp, Op.stringOp, hn], ?_⟩
            rw [← h]
            exact RV.str _ _ (by rw [Joins.data_append, List.map_append, h1, h2])
          · cases h
    · cases h
  case h_4 =>
    split at h
    · cases hx; cases hy
      obtain ⟨hk, h'⟩ := same_spec h
      clear h
      have h := h'
      clear h'
      subst hk
      rw [intR_spec h]
      exact ⟨_, by simp [eqGuard_sub, binOp_sub, Op.intArith], .int _ _⟩
    · cases h
  case h_5 =>
    split at h
    · cases hx; cases hy
      obtain ⟨hk, h'⟩ := same_spec h
      clear h
      have h := h'
      clear h'
      subst hk
      rw [intR_spec h]
      exact ⟨_, by simp [eqGuard_mul, binOp_mul, Op.intArith], .int _ _⟩
    · cases h
  case h_6 =>
    split at h
    · cases hx; cases hy
      obtain ⟨hk, h'⟩ := same_spec h
      clear h
      have h := h'
      clear h'
      subst hk
      split at h
      · cases h
      · rename_i hz
        rw [eqI_eq] at hz
        rw [intR_spec h]
        exact ⟨_, by simp [eqGuard_quo, binOp_quo, Op.intDiv, show ¬ (_ : Int) = 0 from by simpa using hz], .int _ _⟩
    · cases h
  case h_7 =>
    split at h
    · cases hx; cases hy
      obtain ⟨hk, h'⟩ := same_spec h
      clear h
      have h := h'
      clear h'
      subst hk
      split at h
      · cases h
      · rename_i hz
        rw [eqI_eq] at hz
        rw [force_eq] at h
        injection h with h
        subst h
        exact ⟨_, by simp [eqGuard_rem, binOp_rem, Op.intDiv, show ¬ (_ : Int) = 0 from by simpa using hz], .int _ _⟩
    · cases h
  case h_8 =>
    split at h
    · cases hx; cases hy
      obtain ⟨hk, h'⟩ := same_spec h
      clear h
      have h := h'
      clear h'
      subst hk
      rw [bitsR_spec h]
      exact ⟨_, by simp [eqGuard_and, binOp_and, Op.intBits], .int _ _⟩
    · cases h
  case h_9 =>
    split at h
    · cases hx; cases hy
      obtain ⟨hk, h'⟩ := same_spec h
      clear h
      have h := h'
      clear h'
      subst hk
      rw [bitsR_spec h]
      exact ⟨_, by simp [eqGuard_or, binOp_or, Op.intBits], .int _ _⟩
    · cases h
  case h_10 =>
    split at h
    · cases hx; cases hy
      obtain ⟨hk, h'⟩ := same_spec h
      clear h
      have h := h'
      clear h'
      subst hk
      rw [bitsR_spec h]
      exact ⟨_, by simp [eqGuard_xor, binOp_xor, Op.intBits], .int _ _⟩
    · cases h
  case h_11 =>
    split at h
    · cases hx; cases hy
      obtain ⟨hk, h'⟩ := same_spec h
      clear h
      have h := h'
      clear h'
      subst hk
      rw [bitsR_spec h]
      exact ⟨_, by simp [eqGuard_andNot, binOp_andNot, Op.intBits], .int _ _⟩
    · cases h
  case h_12 =>
    split at h
    · cases hx; cases hy
      split at h
      · cases h
      · rename_i hz
        rw [ltI_eq] at hz
        rw [intR_spec h]
        exact ⟨_, by simp [eqGuard_shl, binOp_shl, Op.shift, show ¬ (_ : Int) < 0 from by simpa using hz], .int _ _⟩
    · cases h
  case h_13 =>
    split at h
    · cases hx; cases hy
      split at h
      · cases h
      · rename_i hz
        rw [ltI_eq] at hz
        rw [force_eq] at h
        injection h with h
        subst h
        exact ⟨_, by simp [eqGuard_shr, binOp_shr, Op.shift, show ¬ (_ : Int) < 0 from by simpa using hz], .int _ _⟩
    · cases h
  case h_14 =>
    split at h
    · cases hx; cases hy
      obtain ⟨hk, h'⟩ := same_spec h
      clear h
      have h := h'
      clear h'
      subst hk
      injection h with h
      subst h
      exact ⟨_, by simp [eqGuard_lss, binOp_lss]; rfl, by rw [ltI_eq]; exact .bool _⟩
    · cases hx with
      | str l s h1 =>
        cases hy with
        | str l' s' h2 =>
          injection h with h
          subst h1 h2 h
          exact ⟨_, by simp [eqGuard_lss, binOp, Op.stringOp]; rfl, by rw [ltL_eq, ← Lib.toList_data, ← Lib.toList_data]; exact .bool _⟩
    · cases h
  case h_15 =>
    split at h
    · cases hx; cases hy
      obtain ⟨hk, h'⟩ := same_spec h
      clear h
      have h := h'
      clear h'
      subst hk
      injection h with h
      subst h
      rename_i p q
      refine ⟨.bool (decide (p ≤ q)), by simp [eqGuard_leq, binOp_leq], ?_⟩
      rw [ltI_eq, show (!decide (q < p)) = decide (p ≤ q) by rw [Bool.eq_iff_iff]; simp]
      exact .bool _
    · cases hx with
      | str l s h1 =>
        cases hy with
        | str l' s' h2 =>
          injection h with h
          subst h1 h2 h
          exact ⟨_, by simp [eqGuard_leq, binOp, Op.stringOp]; rfl, by rw [ltL_eq, eqL_eq, ← str_eq, ← Lib.toList_data, ← Lib.toList_data]; exact .bool _⟩
    · cases h
  case h_16 =>
    split at h
    · cases hx; cases hy
      obtain ⟨hk, h'⟩ := same_spec h
      clear h
      have h := h'
      clear h'
      subst hk
      injection h with h
      subst h
      rename_i p q
      refine ⟨.bool (decide (p > q)), by simp [eqGuard_gtr, binOp_gtr], ?_⟩
      rw [ltI_eq]; exact .bool _
    · cases hx with
      | str l s h1 =>
        cases hy with
        | str l' s' h2 =>
          injection h with h
          subst h1 h2 h
          exact ⟨_, by simp [eqGuard_gtr, binOp, Op.stringOp]; rfl, by rw [ltL_eq, eqL_eq, ← str_eq, ← Lib.toList_data, ← Lib.toList_data, Bool.not_or]; exact .bool _⟩
    · cases h
  case h_17 =>
    split at h
    · cases hx; cases hy
      obtain ⟨hk, h'⟩ := same_spec h
      clear h
      have h := h'
      clear h'
      subst hk
      injection h with h
      subst h
      rename_i p q
      refine ⟨.bool (decide (p ≥ q)), by simp [eqGuard_geq, binOp_geq], ?_⟩
      rw [ltI_eq, show (!decide (p < q)) = decide (p ≥ q) by rw [Bool.eq_iff_iff]; simp]
      exact .bool _
    · cases hx with
      | str l s h1 =>
        cases hy with
        | str l' s' h2 =>
          injection h with h
          subst h1 h2 h
          exact ⟨_, by simp [eqGuard_geq, binOp, Op.stringOp]; rfl, by rw [ltL_eq, ← Lib.toList_data, ← Lib.toList_data]; exact .bool _⟩
    · cases h
end Go.Ev
