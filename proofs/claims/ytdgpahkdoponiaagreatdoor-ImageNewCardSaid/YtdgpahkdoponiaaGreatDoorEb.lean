/- ImageNew answers true for every number of words, whatever lies in memory, where the listed package variables hold what the program's text lays in them. This text is a part of that proof. -/
import Derived.Test.YtdgpahkdoponiaaGreatDoorEa
import Derived.Laws.BytesString
namespace Go.Ev
set_option linter.unusedVariables false
set_option linter.unusedSimpArgs false

/-! Types, by a table. -/
structure TI where
  i : TypeInfo
  u : TypeDesc

def Tys (P : Program) (T : Tr TI) : Prop := ∀ t x, T.get t = some x → P.info? t = some x.i ∧ P.underlying t = some x.u

def aggU : TypeDesc → Bool
  | .struct _ => true
  | .array _ _ => true
  | _ => false

section types
variable {P : Program} {T : Tr TI} {t : TypeId} {x : TI}
theorem Tys.und (h : Tys P T) (hx : T.get t = some x) : P.underlying t = some x.u := (h t x hx).2
theorem Tys.run_und (h : Tys P T) (hx : T.get t = some x) (w : World) : (underlying t).run P w = .ok x.u w := run_underlying (h t x hx).2 w
theorem Tys.run_info (h : Tys P T) (hx : T.get t = some x) (w : World) : (typeInfo t).run P w = .ok x.i w := by simp [typeInfo, (h t x hx).1]
theorem Tys.run_size (h : Tys P T) (hx : T.get t = some x) (w : World) : (sizeOf t).run P w = .ok x.i.size w := by simp [sizeOf, h.run_info hx]
theorem Tys.run_agg (h : Tys P T) (hx : T.get t = some x) (w : World) : (isAgg t).run P w = .ok (aggU x.u) w := by
  simp only [isAgg, Sem.run_bind, h.run_und hx, Result.andThen_ok]
  cases x.u <;> rfl
theorem Tys.run_zero (h : Tys P T) (hx : T.get t = some x) {z : Value} (hz : x.i.zero = some z) (w : World) : (zeroValue t).run P w = .ok z w := by simp [zeroValue, h.run_info hx, hz]
end types

/-! Operands. -/
noncomputable def evo (G : Nat) (t : Tr AV) : Operand → AV
  | .tmp i => (match t.get i with | some v => v | none => .top)
  | .const v => ofV v
  | .global g => (match Nat.blt g G with | true => .ptr g 0 | false => .top)
  | .func f => .func f [] []

def Em.gl (E : Em) (G : Nat) : Prop := ∀ g, g < G → ∃ x, E.loc g = some ⟨g, 0, x⟩
theorem Em.gl_mono {E E' : Em} {G : Nat} (h : E.gl G) (hle : E.le E') : E'.gl G := fun g hg => let ⟨x, hx⟩ := h g hg; ⟨x, hle.1 _ _ hx⟩

theorem evo_sound {E : Em} {G : Nat} {t : Tr AV} {a : Act} (hg : E.gl G) (ht : RT E t a.tmps) (x : Operand) : RV E (evo G t x) (a.eval x) := by
  cases x with
  | tmp i =>
    simp only [evo]
    cases h : t.get i with
    | none => exact .top _
    | some v =>
      obtain ⟨u, hu, hv⟩ := ht i v h
      simp only [Act.eval, Array.getD_eq_getD_getElem?, hu, Option.getD_some]
      exact hv
  | const v => exact rv_ofV E v
  | global g =>
    simp only [evo]
    split
    · rename_i h
      obtain ⟨x, hx⟩ := hg g (Nat.le_of_ble_eq_true h)
      exact .ptr g 0 _ hx
    · exact .top _
  | func f => exact .func f [] [] #[] #[] .nil .nil

/-! What a value that stands for an abstract one looks like. -/
section inv
variable {E : Em} {a : Value}
theorem RV.ptr_inv {b off : Nat} (h : RV E (.ptr b off) a) : ∃ l, E.loc b = some l ∧ a = .pointer (some ⟨l.blk, l.base + off, none⟩) := by cases h with | ptr _ _ l hl => exact ⟨l, hl, rfl⟩
theorem RV.sl_inv {b off len : Nat} {cap : Option Nat} {z : Nat} (h : RV E (.sl b off len cap z) a) :
    ∃ l ad c, E.loc b = some l ∧ (∀ k, cap = some k → c = k) ∧ len ≤ c ∧ off + c * z ≤ l.ext ∧ (ad = ⟨l.blk, l.base + off, none⟩ ∨ c = 0) ∧ a = .slice (some ad) len c := by
  cases h with | sl _ _ _ _ _ l ad c k1 k2 k3 k4 k5 => exact ⟨l, ad, c, k1, k2, k3, k4, k5, rfl⟩
theorem RV.str_inv {l : List Nat} (h : RV E (.str l) a) : ∃ s : ByteArray, s.data.toList.map (·.toNat) = l ∧ a = .string s := by cases h with | str _ s hs => exact ⟨s, hs, rfl⟩
theorem RV.int_inv {k : IntKind} {n : Int} (h : RV E (.int k n) a) : a = .int k n := by cases h; rfl
theorem RV.bool_inv {b : Bool} (h : RV E (.bool b) a) : a = .bool b := by cases h; rfl
theorem RV.nils_inv (h : RV E .nils a) : a = .slice none 0 0 := by cases h; rfl
theorem RV.nilm_inv (h : RV E .nilm a) : a = .map none := by cases h; rfl
theorem RV.nili_inv (h : RV E .nili a) : a = .nilIface := by cases h; rfl
theorem RV.nilp_inv (h : RV E .nilp a) : a = .pointer none := by cases h; rfl
theorem RV.map_inv {b : Nat} (h : RV E (.map b) a) : ∃ l, E.loc b = some l ∧ a = .map (some l.blk) := by cases h with | map _ l hl => exact ⟨l, hl, rfl⟩
theorem RV.agg_inv {vs : List AV} (h : RV E (.agg vs) a) : ∃ ws : Array Value, RVs E vs ws.toList ∧ a = .agg ws := by cases h with | agg _ ws hw => exact ⟨ws, hw, rfl⟩
theorem RV.tup_inv {vs : List AV} (h : RV E (.tup vs) a) : ∃ ws : Array Value, RVs E vs ws.toList ∧ a = .tuple ws := by cases h with | tup _ ws hw => exact ⟨ws, hw, rfl⟩
theorem RV.iface_inv {t : TypeId} {v : AV} (h : RV E (.iface t v) a) : ∃ w, RV E v w ∧ a = .iface t w := by cases h with | iface _ _ w hw => exact ⟨w, hw, rfl⟩
theorem RV.func_inv {f : FuncId} {x y : List AV} (h : RV E (.func f x y) a) : ∃ x' y' : Array Value, RVs E x x'.toList ∧ RVs E y y'.toList ∧ a = .func (.func f) x' y' := by
  cases h with | func _ _ _ x' y' h1 h2 => exact ⟨x', y', h1, h2, rfl⟩
theorem RV.yield_inv {b : Nat} (h : RV E (.yield b) a) : ∃ l, E.loc b = some l ∧ a = .func (.yield l.blk) #[] #[] := by cases h with | yield _ l hl => exact ⟨l, hl, rfl⟩
end inv

/-! A part of an aggregate. -/
noncomputable def partA (x : TI) (cs : List AV) (off : Nat) : Option AV :=
  match aggU x.u with
  | true => some (.agg ((cs.drop off).take x.i.size))
  | false => cs[off]?
theorem partA_sound {E : Em} {P : Program} {T : Tr TI} {t : TypeId} {x : TI} (hT : Tys P T) (hx : T.get t = some x) {cs : List AV} {us : Array Value} {off : Nat} {v : AV} (h : partA x cs off = some v) (hc : RVs E cs us.toList) (w : World) :
    ∃ v', (part t us off).run P w = .ok v' w ∧ RV E v v' := by
  unfold partA at h
  split at h
  · rename_i ha
    injection h with h
    refine ⟨.agg (us.extract off (off + x.i.size)), by simp [part, hT.run_agg hx, ha, hT.run_size hx], ?_⟩
    rw [← h]
    refine .agg _ _ ?_
    rw [Array.toList_extract]
    have := (hc.drop off).take x.i.size
    simpa [List.extract_eq_take_drop] using this
  · rename_i ha
    obtain ⟨y, hy, hv⟩ := hc.at off v h
    refine ⟨y, ?_, hv⟩
    have : us[off]? = some y := by simpa using hy
    simp [part, hT.run_agg hx, ha, this]

/-! One operand, conversions. -/
noncomputable def unA (op : UnOp) (x : AV) : Option AV :=
  match op, x with
  | .neg, .int k n => intR k (0 - n)
  | .xor, .int k n => bitsR k (fun n p q => p ^^^ q) (match k.signed with | true => -1 | false => k.max) n
  | .not, .bool b => some (.bool (!b))
  | _, _ => none
theorem unA_sound {E : Em} {P : Program} {op : UnOp} {x : AV} {a : Value} {v : AV} (h : unA op x = some v) (hx : RV E x a) (w : World) : ∃ v', (Op.unary op a).run P w = .ok v' w ∧ RV E v v' := by
  unfold unA at h
  split at h
  · cases hx; rw [intR_spec h]; exact ⟨_, by simp [Op.unary, Op.intArith], .int _ _⟩
  · cases hx; rw [bitsR_spec h]
    refine ⟨_, ?_, .int _ _⟩
    rename_i k n
    cases hk : k.signed <;> simp [Op.unary, Op.intBits, hk]
  · cases hx; injection h with h; subst h; exact ⟨_, by simp [Op.unary], .bool _⟩
  · cases h

noncomputable def bytesA : List AV → Option (List Nat)
  | [] => some []
  | .int .u8 (.ofNat n) :: l => (match Nat.blt n 256, bytesA l with | true, some r => some (n :: r) | _, _ => none)
  | _ => none
theorem bytesA_sound {E : Em} : ∀ {cs : List AV} {l : List Nat}, bytesA cs = some l → ∀ {us : List Value}, RVs E cs us → (∀ n ∈ l, n < 256) ∧ us = l.map (fun n => Value.int .u8 (n : Nat))
  | [], l, h, us, hc => by
    simp only [bytesA, Option.some.injEq] at h
    subst h
    cases hc
    exact ⟨by simp, rfl⟩
  | .int .u8 (.ofNat n) :: cs, l, h, us, hc => by
    simp only [bytesA] at h
    split at h
    · rename_i r h1 h2
      injection h with h
      subst h
      cases hc with
      | cons v w vs ws ha hb =>
        obtain ⟨k1, k2⟩ := bytesA_sound h2 hb
        cases ha
        have : n < 256 := by
          have := Nat.le_of_ble_eq_true h1
          omega
        exact ⟨by intro x hx; rcases List.mem_cons.1 hx with rfl | hx; exact this; exact k1 x hx, by rw [k2]; rfl⟩
    · cases h

theorem toNat_ofNat_map {l : List Nat} (h : ∀ n ∈ l, n < 256) : l.map (fun n => (UInt8.ofNat n).toNat) = l := by
  induction l with
  | nil => rfl
  | cons a l ih =>
    have := h a (by simp)
    simp only [List.map_cons, ih (fun n hn => h n (by simp [hn]))]
    congr 1
    simp; omega

noncomputable def isU8 (T : Tr TI) (e : TypeId) : Bool := match T.get e with
  | some x => (match x.u with | .int .u8 => true | _ => false)
  | none => false
theorem isU8_und {P : Program} {T : Tr TI} (hT : Tys P T) {e : TypeId} (h : isU8 T e = true) : P.underlying e = some (.int .u8) := by
  unfold isU8 at h
  split at h
  · rename_i x hx
    split at h
    · rename_i hu
      exact hu ▸ hT.und hx
    · cases h
  · cases h

noncomputable def convA (T : Tr TI) (s d : TI) (x : AV) (m : Tr AObj) : Option AV :=
  match x with
  | .int _ n => (match d.u with | .int k => intR k n | _ => none)
  | .str l => (match d.u with | .string => some (.str l) | _ => none)
  | .nils => (match s.u, d.u with
    | .slice e, .string => (match isU8 T e with | true => some (.str []) | false => none)
    | _, _ => none)
  | .sl b off len _ z => (match s.u, d.u with
    | .slice e, .string => (match isU8 T e, m.get b with
      | true, some (.cells c _) => (match c.gets len off with
        | some vs => (match bytesA vs with | some l => some (.str l) | none => none)
        | none => none)
      | _, _ => none)
    | _, _ => none)
  | _ => none

theorem fold_push : ∀ (l : List Nat) (s : ByteArray), (l.foldl (fun r n => r.push (UInt8.ofNat n)) s).data.toList = s.data.toList ++ l.map UInt8.ofNat
  | [], s => by simp
  | n :: l, s => by
    rw [List.foldl_cons, fold_push l]
    simp

theorem convA_sound {E : Em} {P : Program} {T : Tr TI} {s d : TypeId} {ts td : TI} {m : Tr AObj} {w : World} {x : AV} {a : Value} {v : AV} (hT : Tys P T) (hs : T.get s = some ts) (hd : T.get d = some td) (hm : RH E m.get w)
    (h : convA T ts td x m = some v) (hx : RV E x a) : ∃ v', (convert s d a).run P w = .ok v' w ∧ RV E v v' := by
  cases x <;> simp only [convA] at h <;> try (cases h; done)
  case int k n =>
    obtain rfl := hx.int_inv
    split at h
    · rename_i k' hu
      rw [intR_spec h]
      refine ⟨_, ?_, .int _ _⟩
      have h1 := hT.run_und hs w
      have h2 := hT.run_und hd w
      rw [hu] at h2
      simp [convert, h1, h2, Conv.intToInt]
    · cases h
  case str l =>
    split at h
    · rename_i hu
      injection h with h
      subst h
      obtain ⟨q, hl, rfl⟩ := hx.str_inv
      refine ⟨.string q, ?_, .str _ _ hl⟩
      have h1 := hT.run_und hs w
      have h2 := hT.run_und hd w
      rw [hu] at h2
      simp [convert, h1, h2]
    · cases h
  case nils =>
    obtain rfl := hx.nils_inv
    split at h
    · rename_i e hu1 hu2
      split at h
      · rename_i h8
        injection h with h
        subst h
        refine ⟨.string .empty, ?_, .str _ _ rfl⟩
        rw [run_convert_bytes_string w s d _ none 0 0 (hu1 ▸ hT.und hs) (isU8_und hT h8) (hu2 ▸ hT.und hd)]
        rfl
      · cases h
    · cases h
  case sl b off len cap z =>
    obtain ⟨lo, ad, c, k1, k2, k3, k4, k5, rfl⟩ := hx.sl_inv
    split at h
    · rename_i e hu1 hu2
      split at h
      · rename_i cc ro h8 hb
        split at h
        · rename_i vs hg
          split at h
          · rename_i l hl
            injection h with h
            subst h
            obtain ⟨_, us, hlen, hrv, hcell⟩ := hm.cells hb hg k1
            obtain ⟨hlt, hus⟩ := bytesA_sound hl hrv
            have hload : (loadCells ad len).run P w = .ok us.toArray w := by
              rcases k5 with rfl | hc0
              · have := run_loadCells' P w lo.blk (lo.base + off) len 0 #[] us hlen (fun j hj => by have := hcell j hj; rwa [show lo.base + off + (0 + j) = lo.base + (off + j) by omega])
                simpa [loadCells] using this
              · have h0 : len = 0 := by omega
                subst h0
                have : us = [] := List.eq_nil_of_length_eq_zero hlen
                subst this
                simp [loadCells, loadCellsFrom]
            refine ⟨.string ((l.map (fun (n : Nat) => (n : Int))).foldl (fun r n => r.push (UInt8.ofNat n.toNat)) ByteArray.empty), ?_, ?_⟩
            · rw [run_convert_bytes_string w s d _ (some ad) len c (hu1 ▸ hT.und hs) (isU8_und hT h8) (hu2 ▸ hT.und hd)]
              refine run_bytesToString w ad len c (l.map (fun (n : Nat) => (n : Int))) ?_
              rw [hload, hus]
              simp
            · refine .str _ _ ?_
              rw [List.foldl_map]
              simp only [Int.toNat_natCast]
              rw [fold_push, show ByteArray.empty.data.toList = [] from rfl, List.nil_append]
              have := toNat_ofNat_map hlt
              simpa [Function.comp_def] using this
          · cases h
        · cases h
      · cases h
    · cases h
end Go.Ev
namespace Go.Ev
set_option linter.unusedVariables false
set_option linter.unusedSimpArgs false

def natA : AV → Option Nat
  | .int _ (.ofNat n) => some n
  | _ => none
theorem natA_inv {E : Em} {x : AV} {a : Value} {n : Nat} (h : natA x = some n) (hx : RV E x a) : ∃ k, a = .int k (n : Int) := by
  cases x <;> simp only [natA] at h <;> try (cases h; done)
  rename_i k i
  cases i with
  | ofNat m => injection h with h; subst h; exact ⟨k, hx.int_inv⟩
  | negSucc m => cases h

/-! Bounds of a slice expression: 'cap' may not be known. -/
def oLe (n : Nat) (cap : Option Nat) (len : Nat) : Bool :=
  match cap with
  | some c => Nat.ble n c
  | none => Nat.ble n len

def bndA (len : Nat) (cap : Option Nat) (lo hi mx : Option AV) : Option (Nat × Nat × Option Nat) :=
  match lo, hi, mx with
  | lo, hi, none =>
    (match hi with
    | none => (match lo with
      | none => some (0, len, cap)
      | some l => (match natA l with
        | some l => (match Nat.ble l len with | true => some (l, len, cap) | false => none)
        | none => none))
    | some h => (match natA h with
      | some h => (match oLe h cap len with
        | true => (match lo with
          | none => some (0, h, cap)
          | some l => (match natA l with
            | some l => (match Nat.ble l h with | true => some (l, h, cap) | false => none)
            | none => none))
        | false => none)
      | none => none))
  | lo, some h, some m => (match natA h, natA m with
    | some h, some m => (match oLe m cap len, Nat.ble h m with
      | true, true => (match lo with
        | none => some (0, h, some m)
        | some l => (match natA l with
          | some l => (match Nat.ble l h with | true => some (l, h, some m) | false => none)
          | none => none))
      | _, _ => none)
    | _, _ => none)
  | _, _, _ => none

def ORV (E : Em) : Option AV → Option Value → Prop
  | none, none => True
  | some v, some w => RV E v w
  | _, _ => False

theorem run_sliceBound {P : Program} {w : World} {k : IntKind} {n y : Nat} (h : n ≤ y) (code : BoundsCode) : (Instr.sliceBound (.int k (n : Int)) y code).run P w = .ok n w := by
  have : (0 : Int) ≤ n ∧ (n : Int) ≤ y := by omega
  simp [Instr.sliceBound, asIntOf, this]

theorem bndA_sound {E : Em} {P : Program} {w : World} {len : Nat} {cap : Option Nat} {c : Nat} {lo hi mx : Option AV} {lo' hi' mx' : Option Value} {l h : Nat} {m : Option Nat} (hb : bndA len cap lo hi mx = some (l, h, m))
    (h1 : ORV E lo lo') (h2 : ORV E hi hi') (h3 : ORV E mx mx') (hc : ∀ k, cap = some k → c = k) (hl : len ≤ c) (isSlice : Bool) :
    ∃ mc, (Instr.sliceBounds isSlice len c lo' hi' mx').run P w = .ok (l, h, mc) w ∧ l ≤ h ∧ h ≤ mc ∧ mc ≤ c ∧ (∀ k, m = some k → mc = k) ∧ (mx' = none → mc = c) := by
  have ole : ∀ n, oLe n cap len = true → n ≤ c := fun n hn => by
    unfold oLe at hn
    split at hn
    · rename_i k; have := hc k rfl; have := Nat.le_of_ble_eq_true hn; omega
    · have := Nat.le_of_ble_eq_true hn; omega
  unfold bndA at hb
  split at hb
  · cases mx' with
    | some _ => exact h3.elim
    | none =>
    split at hb
    · cases hi' with
      | some _ => exact h2.elim
      | none =>
      split at hb
      · cases lo' with
        | some _ => exact h1.elim
        | none =>
        injection hb with hb
        injection hb with e1 hb
        injection hb with e2 e3
        subst e1 e2 e3
        exact ⟨c, by simp [Instr.sliceBounds], by omega, hl, Nat.le_refl _, hc, fun _ => rfl⟩
      · rename_i lv
        cases lo' with
        | none => exact h1.elim
        | some la =>
        split at hb
        · rename_i n hn
          split at hb
          · rename_i hle
            injection hb with hb
            injection hb with e1 hb
            injection hb with e2 e3
            subst e1 e2 e3
            obtain ⟨k, rfl⟩ := natA_inv hn h1
            have hle := Nat.le_of_ble_eq_true hle
            exact ⟨c, by simp [Instr.sliceBounds, run_sliceBound hle], hle, hl, Nat.le_refl _, hc, fun _ => rfl⟩
          · cases hb
        · cases hb
    · rename_i hv
      cases hi' with
      | none => exact h2.elim
      | some ha =>
      split at hb
      · rename_i hn hhn
        obtain ⟨k, rfl⟩ := natA_inv hhn h2
        split at hb
        · rename_i ho
          have ho := ole _ ho
          split at hb
          · cases lo' with
            | some _ => exact h1.elim
            | none =>
            injection hb with hb
            injection hb with e1 hb
            injection hb with e2 e3
            subst e1 e2 e3
            exact ⟨c, by simp [Instr.sliceBounds, run_sliceBound ho], by omega, ho, Nat.le_refl _, hc, fun _ => rfl⟩
          · cases lo' with
            | none => exact h1.elim
            | some la =>
            split at hb
            · rename_i n hn
              split at hb
              · rename_i hle
                injection hb with hb
                injection hb with e1 hb
                injection hb with e2 e3
                subst e1 e2 e3
                obtain ⟨k', rfl⟩ := natA_inv hn h1
                have hle := Nat.le_of_ble_eq_true hle
                exact ⟨c, by simp [Instr.sliceBounds, run_sliceBound hle, run_sliceBound ho], hle, ho, Nat.le_refl _, hc, fun _ => rfl⟩
              · cases hb
            · cases hb
        · cases hb
      · cases hb
  · rename_i hv mv
    cases hi' with
    | none => exact h2.elim
    | some ha =>
    cases mx' with
    | none => exact h3.elim
    | some ma =>
    split at hb
    · rename_i hn mn hhn hmn
      obtain ⟨k, rfl⟩ := natA_inv hhn h2
      obtain ⟨k2, rfl⟩ := natA_inv hmn h3
      split at hb
      · rename_i ho hle2
        have ho := ole _ ho
        have hle2 := Nat.le_of_ble_eq_true hle2
        split at hb
        · cases lo' with
          | some _ => exact h1.elim
          | none =>
          injection hb with hb
          injection hb with e1 hb
          injection hb with e2 e3
          subst e1 e2 e3
          exact ⟨mn, by simp [Instr.sliceBounds, run_sliceBound ho, run_sliceBound hle2], by omega, hle2, ho, fun k h => (Option.some.inj h), fun h => by cases h⟩
        · cases lo' with
          | none => exact h1.elim
          | some la =>
          split at hb
          · rename_i n hn
            split at hb
            · rename_i hle
              injection hb with hb
              injection hb with e1 hb
              injection hb with e2 e3
              subst e1 e2 e3
              obtain ⟨k', rfl⟩ := natA_inv hn h1
              have hle := Nat.le_of_ble_eq_true hle
              exact ⟨mn, by simp [Instr.sliceBounds, run_sliceBound hle, run_sliceBound ho, run_sliceBound hle2], hle, hle2, ho, fun k h => (Option.some.inj h), fun h => by cases h⟩
            · cases hb
          · cases hb
      · cases hb
    · cases hb
  · cases hb

/-! Slice expressions. -/
noncomputable def sizeT (T : Tr TI) (t : TypeId) : Option Nat := match T.get t with | some x => some x.i.size | none => none
theorem sizeT_run {P : Program} {T : Tr TI} (hT : Tys P T) {t : TypeId} {n : Nat} (h : sizeT T t = some n) (w : World) : (sizeOf t).run P w = .ok n w := by
  unfold sizeT at h
  split at h
  · rename_i x hx; injection h with h; subst h; exact hT.run_size hx w
  · cases h

/-- Are there so many cells from a place on? Asked of the last one. -/
noncomputable def hasA (m : Tr AObj) (b off n : Nat) : Bool :=
  match m.get b with
  | some (.cells c _) => (match n with
    | 0 => (match off with
      | 0 => true
      | o + 1 => (match c.get o with | some _ => true | none => false))
    | n + 1 => (match c.get (off + n) with | some _ => true | none => false))
  | _ => false
theorem hasA_sound {E : Em} {m : Tr AObj} {w : World} {b off n : Nat} {l : Loc} (hm : RH E m.get w) (h : hasA m b off n = true) (hl : E.loc b = some l) : off + n ≤ l.ext := by
  unfold hasA at h
  split at h
  · rename_i c ro hb
    obtain ⟨l', ca, e, fz, h1, h2, h3, h4, h5⟩ := hm.obj b _ hb
    rw [hl] at h1
    injection h1 with h1
    subst h1
    split at h
    · split at h
      · omega
      · split at h
        · rename_i v hv
          have := (h5 _ _ hv).1
          omega
        · cases h
    · split at h
      · rename_i v hv
        have := (h5 _ _ hv).1
        omega
      · cases h
  · cases h

noncomputable def sliceA (T : Tr TI) (m : Tr AObj) (ti : TI) (x : AV) (lo hi mx : Option AV) : Option AV :=
  match ti.u, x with
  | .string, .str s => (match mx with
    | none => (match bndA s.length (some s.length) lo hi none with
      | some (l, h, _) => some (.str ((s.drop l).take (h - l)))
      | none => none)
    | some _ => none)
  | .slice e, .nils => (match sizeT T e, bndA 0 (some 0) lo hi mx with
    | some _, some _ => some .nils
    | _, _ => none)
  | .slice e, .sl b off len cap z => (match sizeT T e with
    | some s => (match Nat.beq s z, bndA len cap lo hi mx with
      | true, some (l, h, m) => some (.sl b (off + l * z) (h - l) (match m with | some m => some (m - l) | none => none) z)
      | _, _ => none)
    | none => none)
  | .array n e, .ptr b off => (match sizeT T e with
    | some s => (match hasA m b off (n * s), bndA n (some n) lo hi mx with
      | true, some (l, h, some m) => some (.sl b (off + l * s) (h - l) (some (m - l)) s)
      | _, _ => none)
    | none => none)
  | _, _ => none

theorem extract_take (s : ByteArray) (l h : Nat) : (s.extract l h).data.toList = (s.data.toList.drop l).take (h - l) := by
  rw [ByteArray.data_extract, Array.toList_extract]

theorem sliceA_sound {E : Em} {P : Program} {T : Tr TI} {t : TypeId} {ti : TI} {m : Tr AObj} {w : World} {x : AV} {lo hi mx : Option AV} {a : Value} {lo' hi' mx' : Option Value} {v : AV} (hT : Tys P T) (ht : T.get t = some ti) (hm : RH E m.get w)
    (h : sliceA T m ti x lo hi mx = some v) (hx : RV E x a) (h1 : ORV E lo lo') (h2 : ORV E hi hi') (h3 : ORV E mx mx') : ∃ v', (Instr.sliceAt t a lo' hi' mx').run P w = .ok v' w ∧ RV E v v' := by
  have hu := hT.run_und ht w
  unfold sliceA at h
  split at h
  · rename_i s hu'
    rw [hu'] at hu
    split at h
    · cases mx' with
      | some _ => exact h3.elim
      | none =>
      split at h
      · rename_i l h' m' hb
        injection h with h
        subst h
        obtain ⟨q, hq, rfl⟩ := hx.str_inv
        have hlen : s.length = q.size := by rw [← hq]; simp
        obtain ⟨mc, k1, k2, k3, k4, k5, k6⟩ := bndA_sound (P := P) (w := w) (c := s.length) hb h1 h2 h3 (fun k hk => Option.some.inj hk) (Nat.le_refl _) false
        rw [hlen] at k1
        refine ⟨.string (q.extract l h'), by simp [Instr.sliceAt, hu, Instr.slice, k1], .str _ _ ?_⟩
        rw [extract_take, List.map_take, List.map_drop, hq]
      · cases h
    · cases h
  · rename_i e hu'
    rw [hu'] at hu
    obtain rfl := hx.nils_inv
    split at h
    · rename_i sz q hs hb
      injection h with h
      subst h
      obtain ⟨l, h', m'⟩ := q
      obtain ⟨mc, k1, k2, k3, k4, k5, k6⟩ := bndA_sound (P := P) (w := w) (c := 0) hb h1 h2 h3 (fun k hk => Option.some.inj hk) (Nat.le_refl _) true
      have e1 : mc = 0 := by omega
      have e2 : h' = 0 := by omega
      have e3 : l = 0 := by omega
      subst e1 e2 e3
      exact ⟨.slice none 0 0, by simp [Instr.sliceAt, hu, Instr.slice, k1, sizeT_run hT hs], .nils⟩
    · cases h
  · rename_i e b off len cap z hu'
    rw [hu'] at hu
    obtain ⟨lo0, ad, c, g1, g2, g3, g4, g5, rfl⟩ := hx.sl_inv
    split at h
    · rename_i s hs
      split at h
      · rename_i l h' m' hz hb
        injection h with h
        have hz := Nat.eq_of_beq_eq_true hz
        subst hz
        obtain ⟨mc, k1, k2, k3, k4, k5, k6⟩ := bndA_sound (P := P) (w := w) (c := c) hb h1 h2 h3 g2 g3 true
        have hsz := sizeT_run hT hs w
        refine ⟨.slice (if mc = l then some ad else (some ad).map (·.add (l * s))) (h' - l) (mc - l), by simp [Instr.sliceAt, hu, Instr.slice, k1, hsz], ?_⟩
        subst h
        have hmul : l * s + (mc - l) * s = mc * s := by rw [← Nat.add_mul]; congr 1; omega
        have hmc : mc * s ≤ c * s := Nat.mul_le_mul_right _ k4
        have hcap : ∀ k, (match m' with | some m => some (m - l) | none => none) = some k → mc - l = k := by
          intro k hk
          cases m' with
          | none => cases hk
          | some q => injection hk with hk; rw [k5 q rfl]; exact hk
        by_cases e1 : mc = l
        · rw [if_pos e1]
          exact .sl _ _ _ _ _ lo0 ad _ g1 hcap (by omega) (by omega) (.inr (by omega))
        · rw [if_neg e1]
          have had : ad = ⟨lo0.blk, lo0.base + off, none⟩ := by
            rcases g5 with h | h
            · exact h
            · omega
          subst had
          simp only [Option.map_some, Addr.add_lit]
          exact .sl _ _ _ _ _ lo0 _ _ g1 hcap (by omega) (by omega) (.inl (by simp [Nat.add_assoc]))
      · cases h
    · cases h
  · rename_i n e b off hu'
    rw [hu'] at hu
    obtain ⟨lo0, g1, rfl⟩ := hx.ptr_inv
    split at h
    · rename_i s hs
      split at h
      · rename_i l h' m' hz hb
        injection h with h
        obtain ⟨mc, k1, k2, k3, k4, k5, k6⟩ := bndA_sound (P := P) (w := w) (c := n) hb h1 h2 h3 (fun k hk => Option.some.inj hk) (Nat.le_refl _) false
        have hsz := sizeT_run hT hs w
        have hext := hasA_sound hm hz g1
        obtain rfl := k5 _ rfl
        refine ⟨.slice (some (if mc = l then ⟨lo0.blk, lo0.base + off, none⟩ else (⟨lo0.blk, lo0.base + off, none⟩ : Addr).add (l * s))) (h' - l) (mc - l), by simp [Instr.sliceAt, hu, Instr.sureAddr, k1, hsz], ?_⟩
        subst h
        have hmul : l * s + (mc - l) * s = mc * s := by rw [← Nat.add_mul]; congr 1; omega
        have hmc : mc * s ≤ n * s := Nat.mul_le_mul_right _ k4
        by_cases e1 : mc = l
        · rw [if_pos e1]
          exact .sl _ _ _ _ _ lo0 _ _ g1 (fun k hk => Option.some.inj hk) (by omega) (by omega) (.inr (by omega))
        · rw [if_neg e1, Addr.add_lit]
          exact .sl _ _ _ _ _ lo0 _ _ g1 (fun k hk => Option.some.inj hk) (by omega) (by omega) (.inl (by simp [Nat.add_assoc]))
      · cases h
    · cases h
  · cases h
end Go.Ev
namespace Go.Ev
set_option linter.unusedVariables false
set_option linter.unusedSimpArgs false

/-! Addresses and parts. -/
noncomputable def fieldAddrA (T : Tr TI) (ti : TI) (x : AV) (f : Nat) : Option AV :=
  match ti.u, x with
  | .struct fs, .ptr b off => (match fs[f]? with
    | some fd => (match sizeT T fd.type with
      | some (n + 1) => some (.ptr b (off + fd.offset))
      | _ => none)
    | none => none)
  | _, _ => none
theorem fieldAddrA_sound {E : Em} {P : Program} {T : Tr TI} {t : TypeId} {ti : TI} {w : World} {x : AV} {f : Nat} {a : Value} {v : AV} (hT : Tys P T) (ht : T.get t = some ti) (h : fieldAddrA T ti x f = some v) (hx : RV E x a) :
    ∃ v', (Instr.fieldAt t a f).run P w = .ok v' w ∧ RV E v v' := by
  have hu := hT.run_und ht w
  unfold fieldAddrA at h
  split at h
  · rename_i fs b off hu'
    rw [hu'] at hu
    obtain ⟨l, hl, rfl⟩ := hx.ptr_inv
    split at h
    · rename_i fd hfd
      split at h
      · rename_i n hn
        injection h with h
        subst h
        refine ⟨.pointer (some ⟨l.blk, l.base + off + fd.offset, none⟩), by simp [Instr.fieldAt, hu, hfd, Instr.sureAddr, fieldPlace, sizeT_run hT hn, Addr.add_lit], ?_⟩
        rw [Nat.add_assoc]
        exact .ptr _ _ _ hl
      · cases h
    · cases h
  · cases h

noncomputable def fieldA (T : Tr TI) (ti : TI) (x : AV) (f : Nat) : Option AV :=
  match ti.u, x with
  | .struct fs, .agg cs => (match fs[f]? with
    | some fd => (match T.get fd.type with
      | some tf => partA tf cs fd.offset
      | none => none)
    | none => none)
  | _, _ => none
theorem fieldA_sound {E : Em} {P : Program} {T : Tr TI} {t : TypeId} {ti : TI} {w : World} {x : AV} {f : Nat} {a : Value} {v : AV} (hT : Tys P T) (ht : T.get t = some ti) (h : fieldA T ti x f = some v) (hx : RV E x a) :
    ∃ v', (Instr.field t a f).run P w = .ok v' w ∧ RV E v v' := by
  have hu := hT.run_und ht w
  unfold fieldA at h
  split at h
  · rename_i fs cs hu'
    rw [hu'] at hu
    obtain ⟨ws, hw, rfl⟩ := hx.agg_inv
    split at h
    · rename_i fd hfd
      split at h
      · rename_i tf htf
        obtain ⟨v', hv, hr⟩ := partA_sound hT htf h hw w
        exact ⟨v', by simp [Instr.field, hu, hfd, asAgg, hv], hr⟩
      · cases h
    · cases h
  · cases h

noncomputable def indexAddrA (T : Tr TI) (ti : TI) (x ix : AV) : Option AV :=
  match ti.u, x, natA ix with
  | .slice e, .sl b off len _ _, some i => (match Nat.blt i len, sizeT T e with
    | true, some s => some (.ptr b (off + i * s))
    | _, _ => none)
  | .array n e, .ptr b off, some i => (match Nat.blt i n, sizeT T e with
    | true, some s => some (.ptr b (off + i * s))
    | _, _ => none)
  | _, _, _ => none
theorem indexAddrA_sound {E : Em} {P : Program} {T : Tr TI} {t : TypeId} {ti : TI} {w : World} {x ix : AV} {a ai : Value} {v : AV} (hT : Tys P T) (ht : T.get t = some ti) (h : indexAddrA T ti x ix = some v) (hx : RV E x a) (hi : RV E ix ai) :
    ∃ v', (Instr.indexAt t a ai).run P w = .ok v' w ∧ RV E v v' := by
  have hu := hT.run_und ht w
  unfold indexAddrA at h
  split at h
  · rename_i e b off len _ _ i hu' hi'
    rw [hu'] at hu
    obtain ⟨l, ad, c, g1, g2, g3, g4, g5, rfl⟩ := hx.sl_inv
    obtain ⟨k, rfl⟩ := natA_inv hi' hi
    split at h
    · rename_i s hlt hs
      injection h with h
      subst h
      have hlt : i < len := Nat.le_of_ble_eq_true hlt
      have had : ad = ⟨l.blk, l.base + off, none⟩ := by
        rcases g5 with h | h
        · exact h
        · omega
      subst had
      have hb : (0 : Int) ≤ i ∧ (i : Int) < len := by omega
      refine ⟨.pointer (some ⟨l.blk, l.base + off + i * s, none⟩), by simp [Instr.indexAt, hu, asIntOf, hlt, show ¬ len ≤ i by omega, sizeT_run hT hs, Addr.add_lit], ?_⟩
      rw [Nat.add_assoc]
      exact .ptr _ _ _ g1
    · cases h
  · rename_i n e b off i hu' hi'
    rw [hu'] at hu
    obtain ⟨l, g1, rfl⟩ := hx.ptr_inv
    obtain ⟨k, rfl⟩ := natA_inv hi' hi
    split at h
    · rename_i s hlt hs
      injection h with h
      subst h
      have hlt : i < n := Nat.le_of_ble_eq_true hlt
      have hb : (0 : Int) ≤ i ∧ (i : Int) < n := by omega
      refine ⟨.pointer (some ⟨l.blk, l.base + off + i * s, none⟩), by simp [Instr.indexAt, hu, asIntOf, hlt, show ¬ n ≤ i by omega, sizeT_run hT hs, Addr.add_lit, Instr.sureAddr], ?_⟩
      rw [Nat.add_assoc]
      exact .ptr _ _ _ g1
    · cases h
  · cases h

noncomputable def indexA (T : Tr TI) (ti : TI) (x ix : AV) : Option AV :=
  match ti.u, x, natA ix with
  | .string, .str l, some i => (match l[i]? with
    | some b => some (.int .u8 (.ofNat b))
    | none => none)
  | .array n e, .agg cs, some i => (match Nat.blt i n, T.get e with
    | true, some te => partA te cs (i * te.i.size)
    | _, _ => none)
  | _, _, _ => none
theorem indexA_sound {E : Em} {P : Program} {T : Tr TI} {t : TypeId} {ti : TI} {w : World} {x ix : AV} {a ai : Value} {v : AV} (hT : Tys P T) (ht : T.get t = some ti) (h : indexA T ti x ix = some v) (hx : RV E x a) (hi : RV E ix ai) :
    ∃ v', (Instr.index t a ai).run P w = .ok v' w ∧ RV E v v' := by
  have hu := hT.run_und ht w
  unfold indexA at h
  split at h
  · rename_i l i hu' hi'
    rw [hu'] at hu
    obtain ⟨q, hq, rfl⟩ := hx.str_inv
    obtain ⟨k, rfl⟩ := natA_inv hi' hi
    split at h
    · rename_i b hb
      injection h with h
      subst h
      subst hq
      rw [List.getElem?_map] at hb
      obtain ⟨u, hu1, rfl⟩ := Option.map_eq_some_iff.1 hb
      have hq : q[i]? = some u := by
        have : q.data[i]? = some u := by simpa using hu1
        have hlt : i < q.size := (Array.getElem?_eq_some_iff.1 this).1
        rw [getElem?_pos q i hlt]
        have h2 := (Array.getElem?_eq_some_iff.1 this).2
        exact congrArg some h2
      exact ⟨_, by simp [Instr.index, hu, asIntOf, hq], .int _ _⟩
    · cases h
  · rename_i n e cs i hu' hi'
    rw [hu'] at hu
    obtain ⟨ws, hw, rfl⟩ := hx.agg_inv
    obtain ⟨k, rfl⟩ := natA_inv hi' hi
    split at h
    · rename_i te hlt hte
      have hlt : i < n := Nat.le_of_ble_eq_true hlt
      have hb : (0 : Int) ≤ i ∧ (i : Int) < n := by omega
      obtain ⟨v', hv, hr⟩ := partA_sound hT hte h hw w
      exact ⟨v', by simp [Instr.index, hu, asIntOf, hlt, show ¬ n ≤ i by omega, hT.run_size hte, hv], hr⟩
    · cases h
  · cases h

noncomputable def extractA (x : AV) (i : Nat) : Option AV := match x with
  | .tup vs => vs[i]?
  | _ => none
theorem extractA_sound {E : Em} {P : Program} {w : World} {x : AV} {i : Nat} {a : Value} {v : AV} (h : extractA x i = some v) (hx : RV E x a) : ∃ v', (Instr.extract a i).run P w = .ok v' w ∧ RV E v v' := by
  unfold extractA at h
  split at h
  · obtain ⟨ws, hw, rfl⟩ := hx.tup_inv
    obtain ⟨y, hy, hv⟩ := hw.at i v h
    have : ws[i]? = some y := by simpa using hy
    exact ⟨y, by simp [Instr.extract, this], hv⟩
  · cases h

/-! Reading memory. -/
noncomputable def loadA (ti : TI) (m : Tr AObj) (x : AV) : Option AV :=
  match x with
  | .ptr b off => (match m.get b with
    | some (.cells c _) => (match aggU ti.u with
      | true => (match c.gets ti.i.size off with | some vs => some (.agg vs) | none => none)
      | false => c.get off)
    | _ => none)
  | _ => none
theorem loadA_sound {E : Em} {P : Program} {T : Tr TI} {t : TypeId} {ti : TI} {m : Tr AObj} {w : World} {x : AV} {a : Value} {v : AV} (hT : Tys P T) (ht : T.get t = some ti) (hm : RH E m.get w) (h : loadA ti m x = some v) (hx : RV E x a) :
    ∃ v', (Instr.loadAt t a).run P w = .ok v' w ∧ RV E v v' := by
  unfold loadA at h
  split at h
  · rename_i b off
    obtain ⟨l, hl, rfl⟩ := hx.ptr_inv
    split at h
    · rename_i c ro hb
      split at h
      · rename_i ha
        split at h
        · rename_i vs hg
          injection h with h
          subst h
          obtain ⟨_, us, hlen, hrv, hcell⟩ := hm.cells hb hg hl
          have := run_loadCells' P w l.blk (l.base + off) ti.i.size 0 #[] us hlen (fun j hj => by have := hcell j hj; rwa [show l.base + off + (0 + j) = l.base + (off + j) by omega])
          refine ⟨.agg us.toArray, by simp [Instr.loadAt, Instr.sureAddr, loadVar, hT.run_agg ht, ha, hT.run_size ht, loadCells, this], .agg _ _ (by simpa using hrv)⟩
        · cases h
      · rename_i ha
        obtain ⟨_, u, hu, hv⟩ := hm.cell hb h hl
        exact ⟨u, by simp [Instr.loadAt, Instr.sureAddr, loadVar, hT.run_agg ht, ha, hu], hv⟩
    · cases h
  · cases h

/-! An interface value's type. -/
noncomputable def assertA (T : Tr TI) (t : TypeId) (ti : TI) (ok : Bool) (x : AV) : Option AV :=
  match ti.u with
  | .interface _ => none
  | _ => (match x, ok with
    | .nili, true => (match ti.i.zero with | some z => some (.tup [ofV z, .bool false]) | none => none)
    | .iface d v, true => (match Nat.beq d t with
      | true => some (.tup [v, .bool true])
      | false => (match ti.i.zero with | some z => some (.tup [ofV z, .bool false]) | none => none))
    | .iface d v, false => (match Nat.beq d t with | true => some v | false => none)
    | _, _ => none)
theorem assertA_sound {E : Em} {P : Program} {T : Tr TI} {t xt : TypeId} {ti : TI} {w : World} {ok : Bool} {x : AV} {a : Value} {v : AV} (hT : Tys P T) (ht : T.get t = some ti) (h : assertA T t ti ok x = some v) (hx : RV E x a) :
    ∃ v', (Instr.typeAssert a xt t ok).run P w = .ok v' w ∧ RV E v v' := by
  have hu := hT.run_und ht w
  unfold assertA at h
  split at h
  · cases h
  · rename_i hni
    have two : ∀ {v : AV} {u : Value} (b : Bool), RV E v u → RV E (.tup [v, .bool b]) (.tuple #[u, .bool b]) := fun b hv => .tup _ _ (.cons _ _ _ _ hv (.cons _ _ _ _ (.bool b) .nil))
    split at h
    · obtain rfl := hx.nili_inv
      split at h
      · rename_i z hz
        injection h with h
        subst h
        refine ⟨.tuple #[z, .bool false], ?_, two false (rv_ofV E z)⟩
        cases hd : ti.u <;> rw [hd] at hu hni <;> first
          | exact absurd rfl (hni _)
          | simp [Instr.typeAssert, hu, hT.run_zero ht hz]
      · cases h
    · rename_i d y
      obtain ⟨u, hy, rfl⟩ := hx.iface_inv
      split at h
      · rename_i he
        have he := Nat.eq_of_beq_eq_true he
        injection h with h
        subst h he
        refine ⟨.tuple #[u, .bool true], ?_, two true hy⟩
        cases hd : ti.u <;> rw [hd] at hu hni <;> first
          | exact absurd rfl (hni _)
          | simp [Instr.typeAssert, hu]
      · rename_i he
        have he : d ≠ t := fun e => by subst e; simp at he
        split at h
        · rename_i z hz
          injection h with h
          subst h
          refine ⟨.tuple #[z, .bool false], ?_, two false (rv_ofV E z)⟩
          cases hd : ti.u <;> rw [hd] at hu hni <;> first
            | exact absurd rfl (hni _)
            | simp [Instr.typeAssert, hu, hT.run_zero ht hz, he]
        · cases h
    · rename_i d y
      obtain ⟨u, hy, rfl⟩ := hx.iface_inv
      split at h
      · rename_i he
        have he := Nat.eq_of_beq_eq_true he
        injection h with h
        subst h he
        refine ⟨u, ?_, hy⟩
        cases hd : ti.u <;> rw [hd] at hu hni <;> first
          | exact absurd rfl (hni _)
          | simp [Instr.typeAssert, hu]
      · cases h
    · cases h
end Go.Ev
namespace Go.Ev
set_option linter.unusedVariables false
set_option linter.unusedSimpArgs false

/-! Literals of structs, arrays and slices. -/
theorem fold_set : ∀ (v : List Value) (off k : Nat) (cs : Array Value), off + k + v.length ≤ cs.size →
    ((v.zipIdx k).foldl (fun (cs : Array Value) (x : Value × Nat) => cs.setIfInBounds (off + x.2) x.1) cs).toList = cs.toList.take (off + k) ++ v ++ cs.toList.drop (off + k + v.length)
  | [], off, k, cs, _ => by simp
  | a :: v, off, k, cs, h => by
    simp only [List.length_cons] at h
    rw [List.zipIdx_cons, List.foldl_cons, fold_set v off (k + 1) _ (by simp; omega)]
    have hk : off + k < cs.size := by omega
    rw [Array.toList_setIfInBounds]
    have e1 : (cs.toList.set (off + k) a).take (off + (k + 1)) = cs.toList.take (off + k) ++ [a] := by
      rw [← Nat.add_assoc, List.take_succ_eq_append_getElem (by simpa using hk), List.take_set_of_le (Nat.le_refl _)]
      simp
    have e2 : (cs.toList.set (off + k) a).drop (off + (k + 1) + v.length) = cs.toList.drop (off + k + (a :: v).length) := by
      rw [List.drop_set_of_lt (by omega)]
      congr 1
      simp; omega
    rw [e1, e2]
    simp

noncomputable def fillA (place : Nat → Option (Nat × Nat)) (cs : List AV) : List (Nat × AV) → Option (List AV)
  | [] => some cs
  | (i, v) :: rest => (match place i with
    | some (off, size) => (match Nat.beq v.cells.length size, Nat.ble (off + size) cs.length, v.cells.all AV.flat with
      | true, true, true => fillA place (cs.take off ++ v.cells ++ cs.drop (off + size)) rest
      | _, _, _ => none)
    | none => none)

theorem fillA_sound {E : Em} {place : Nat → Option (Nat × Nat)} {α : Type} (f : α → AV) (g : α → Value) : ∀ (ps : List (Nat × α)) (cs : List AV) (us : Array Value) (out : List AV), fillA place cs (ps.map fun p => (p.1, f p.2)) = some out → RVs E cs us.toList →
    (∀ p ∈ ps, RV E (f p.2) (g p.2)) → ∃ r, Instr.fill place us (ps.map fun p => (p.1, g p.2)) = some r ∧ RVs E out r.toList
  | [], cs, us, out, h, hc, _ => by
    simp only [List.map_nil, fillA, Option.some.injEq] at h
    subst h
    exact ⟨us, rfl, hc⟩
  | (i, x) :: ps, cs, us, out, h, hc, hp => by
    simp only [List.map_cons, fillA] at h
    split at h
    · rename_i off size hpl
      split at h
      · rename_i h1 h2 h3
        have h1 := Nat.eq_of_beq_eq_true h1
        have h2 := Nat.le_of_ble_eq_true h2
        have hx : RVs E (f x).cells (g x).cells.toList := (hp (i, x) (by simp)).cells h3
        have hl := hx.length
        have hcl := hc.length
        have hsz : (g x).cells.size = size := by
          have : (g x).cells.toList.length = (g x).cells.size := Array.length_toList
          omega
        have hus : us.toList.length = us.size := Array.length_toList
        have hfold : ((g x).cells.zipIdx.foldl (fun (cs : Array Value) (y : Value × Nat) => cs.setIfInBounds (off + y.2) y.1) us).toList = us.toList.take off ++ (g x).cells.toList ++ us.toList.drop (off + size) := by
          rw [← Array.foldl_toList, Array.toList_zipIdx]
          have := fold_set (g x).cells.toList off 0 us (by rw [Array.length_toList]; omega)
          simpa [hsz] using this
        obtain ⟨r, hr, ho⟩ := fillA_sound f g ps _ ((g x).cells.zipIdx.foldl (fun (cs : Array Value) (y : Value × Nat) => cs.setIfInBounds (off + y.2) y.1) us) out h
          (by rw [hfold]; exact ((hc.take off).append hx).append (hc.drop _)) (fun p hq => hp p (by simp [hq]))
        refine ⟨r, ?_, ho⟩
        simp only [List.map_cons, Instr.fill, hpl]
        rw [if_neg (by simp; omega)]
        exact hr
      · cases h
    · cases h

noncomputable def placesA (T : Tr TI) : List Field → Option (List (Nat × Nat))
  | [] => some []
  | f :: fs => (match sizeT T f.type, placesA T fs with
    | some n, some r => some ((f.offset, n) :: r)
    | _, _ => none)
theorem placesA_run {P : Program} {T : Tr TI} (hT : Tys P T) (w : World) : ∀ (fs : List Field) (r : List (Nat × Nat)), placesA T fs = some r → (fs.mapM fun f => do pure (f.offset, ← sizeOf f.type) : Sem (List (Nat × Nat))).run P w = .ok r w
  | [], r, h => by simp only [placesA, Option.some.injEq] at h; subst h; rfl
  | f :: fs, r, h => by
    simp only [placesA] at h
    split at h
    · rename_i n q hn hq
      injection h with h
      subst h
      have ih := placesA_run hT w fs q hq
      rw [List.mapM_cons]
      simp only [Sem.run_bind, sizeT_run hT hn, Result.andThen_ok, Sem.run_pure, ih]
    · cases h

noncomputable def nth {α : Type} : List α → Nat → Option α := fun l i => l[i]?

noncomputable def buildA (T : Tr TI) (ti : TI) (ps : List (Nat × AV)) : Option AV :=
  match ti.i.zero with
  | none => none
  | some z => (match ti.u with
    | .struct fs => (match placesA T fs.toList with
      | some r => (match fillA (fun i => r[i]?) (ofV z).cells ps with | some out => some (.agg out) | none => none)
      | none => none)
    | .array _ e => (match sizeT T e with
      | some s => (match fillA (fun i => some (i * s, s)) (ofV z).cells ps with | some out => some (.agg out) | none => none)
      | none => none)
    | _ => none)

theorem cells_ofV (E : Em) (z : Value) (h : (ofV z).cells.all AV.flat = true ∨ ∃ cs, z = .agg cs) : RVs E (ofV z).cells z.cells.toList := by
  rcases h with h | ⟨cs, rfl⟩
  · exact (rv_ofV E z).cells h
  · obtain ⟨l⟩ := cs
    simp only [ofV, AV.cells, Value.cells]
    exact rvs_ofVs E l

noncomputable def isAggV : Value → Bool
  | .agg _ => true
  | _ => false
theorem buildA_sound {E : Em} {P : Program} {T : Tr TI} {t : TypeId} {ti : TI} {w : World} {α : Type} (f : α → AV) (g : α → Value) {ps : List (Nat × α)} {v : AV} (hT : Tys P T) (ht : T.get t = some ti) (h : buildA T ti (ps.map fun p => (p.1, f p.2)) = some v)
    (hz : ∀ z, ti.i.zero = some z → isAggV z = true) (hp : ∀ p ∈ ps, RV E (f p.2) (g p.2)) : ∃ v', (Instr.build t (ps.map fun p => (p.1, g p.2)).toArray).run P w = .ok v' w ∧ RV E v v' := by
  have hu := hT.run_und ht w
  unfold buildA at h
  split at h
  · cases h
  · rename_i z hzz
    have hzz' := hT.run_zero ht hzz w
    have hagg : ∃ cs, z = .agg cs := by
      have := hz z hzz
      cases z <;> first | exact ⟨_, rfl⟩ | cases this
    have hc := cells_ofV E z (.inr hagg)
    split at h
    · rename_i fs hu'
      rw [hu'] at hu
      split at h
      · rename_i r hr
        split at h
        · rename_i out ho
          injection h with h
          subst h
          obtain ⟨q, hq, hout⟩ := fillA_sound f g ps _ z.cells out ho hc hp
          refine ⟨.agg q, ?_, .agg _ _ hout⟩
          have hm := placesA_run hT w fs.toList r hr
          have hm' : (fs.mapM fun f => do pure (f.offset, ← sizeOf f.type) : Sem (Array (Nat × Nat))).run P w = .ok r.toArray w := by
            rw [Array.mapM_eq_mapM_toList]
            simp only [Sem.run_map, hm, Result.andThen_ok]
          simp only [Instr.build, Sem.run_bind, hzz', Result.andThen_ok, hu, hm']
          simp [hq]
        · cases h
      · cases h
    · rename_i n e hu'
      rw [hu'] at hu
      split at h
      · rename_i s hs
        split at h
        · rename_i out ho
          injection h with h
          subst h
          obtain ⟨q, hq, hout⟩ := fillA_sound f g ps _ z.cells out ho hc hp
          refine ⟨.agg q, ?_, .agg _ _ hout⟩
          simp [Instr.build, hzz', hu, sizeT_run hT hs, hq]
        · cases h
      · cases h
    · cases h
end Go.Ev
namespace Go.Ev
set_option linter.unusedVariables false
set_option linter.unusedSimpArgs false

/-! Maps whose keys are integers (0), strings (1), or pairs of integers (2). -/
noncomputable def kindK (T : Tr TI) (u : TypeDesc) : Option Nat :=
  match u with
  | .int _ => some 0
  | .string => some 1
  | .array 2 e => (match T.get e with
    | some x => (match x.u, Nat.beq x.i.size 1 with | .int _, true => some 2 | _, _ => none)
    | none => none)
  | _ => none

def keqA (kd : Nat) (x y : AV) : Option Bool :=
  match kd, x, y with
  | 0, .int k a, .int k' b => (match Nat.beq (ik k) (ik k') with | true => some (eqI a b) | false => none)
  | 1, .str a, .str b => some (eqL a b)
  | 2, .agg [.int k a, .int k2 a2], .agg [.int k' b, .int k2' b2] => (match Nat.beq (ik k) (ik k'), Nat.beq (ik k2) (ik k2') with
    | true, true => some (eqI a b && eqI a2 b2)
    | _, _ => none)
  | _, _, _ => none

theorem two_inv {E : Em} {k k2 : IntKind} {a a2 : Int} {x : Value} (h : RV E (.agg [.int k a, .int k2 a2]) x) : x = .agg #[.int k a, .int k2 a2] := by
  obtain ⟨ws, hw, rfl⟩ := h.agg_inv
  cases ws with
  | mk l =>
    cases hw with
    | cons v w vs ws h1 h2 =>
      cases h2 with
      | cons v w vs ws h3 h4 =>
        cases h4
        rw [h1.int_inv, h3.int_inv]

theorem kindK_two {P : Program} {T : Tr TI} (hT : Tys P T) {u : TypeDesc} (h : kindK T u = some 2) : ∃ e x k, u = .array 2 e ∧ T.get e = some x ∧ x.u = .int k ∧ x.i.size = 1 := by
  unfold kindK at h
  split at h
  · cases h
  · cases h
  · rename_i e
    split at h
    · rename_i x hx
      split at h
      · rename_i k h1 h2
        exact ⟨e, x, k, rfl, hx, h1, Nat.eq_of_beq_eq_true h2⟩
      · cases h
    · cases h
  · cases h

theorem run_equal_two {P : Program} {T : Tr TI} (hT : Tys P T) {t e : TypeId} {x : TI} {kk k k2 k' k2' : IntKind} {a a2 b b2 : Int} (ht : P.underlying t = some (.array 2 e)) (he : T.get e = some x) (hx : x.u = .int kk) (hs : x.i.size = 1) (h1 : k = k') (h2 : k2 = k2') (w : World) :
    (Op.equal t (.agg #[.int k a, .int k2 a2]) (.agg #[.int k' b, .int k2' b2])).run P w = .ok (a == b && a2 == b2) w := by
  subst h1 h2
  have hd : ∀ a b, Op.equal t a b = Op.equalIn (9998 + 1 + 1) t a b := fun _ _ => rfl
  rw [hd]
  generalize 9998 = d
  have hu := hT.run_und he w
  rw [hx] at hu
  have hag := hT.run_agg he w
  rw [hx] at hag
  have hsz := hT.run_size he w
  rw [hs] at hsz
  have one : ∀ (k : IntKind) (a b : Int), (Op.equalIn (d + 1) e (.int k a) (.int k b)).run P w = .ok (a == b) w := fun k a b => by
    unfold Op.equalIn; simp [hu]
  unfold Op.equalIn
  simp only [Sem.run_bind, run_underlying ht, Result.andThen_ok, hsz]
  have p0 : ∀ (u v : Value), (part e #[u, v] (0 * 1)).run P w = .ok u w := fun u v => by simp [part, hag, aggU]
  have p1 : ∀ (u v : Value), (part e #[u, v] (1 * 1)).run P w = .ok v w := fun u v => by simp [part, hag, aggU]
  simp only [Std.Legacy.Range.forIn_eq_forIn_range', Std.Legacy.Range.size, Nat.sub_zero, Nat.add_one_sub_one, Nat.div_one]
  rw [show List.range' 0 2 1 = [0, 1] from rfl]
  simp only [List.forIn_cons, List.forIn_nil, Sem.run_bind, p0, p1, one, Result.andThen_ok]
  cases h1 : (a == b) <;> cases h2 : (a2 == b2) <;> simp [h1, h2, p0, p1, one]

theorem run_checkKey_two {P : Program} {T : Tr TI} (hT : Tys P T) {t e : TypeId} {x : TI} {kk k k2 : IntKind} {a a2 : Int} {em : Bool} (ht : P.underlying t = some (.array 2 e)) (he : T.get e = some x) (hx : x.u = .int kk) (hs : x.i.size = 1) (w : World) :
    (Instr.checkKey em 10000 t (.agg #[.int k a, .int k2 a2])).run P w = .ok () w := by
  have hd : Instr.checkKey em 10000 t (.agg #[.int k a, .int k2 a2]) = Instr.checkKey em (9998 + 1 + 1) t (.agg #[.int k a, .int k2 a2]) := rfl
  rw [hd]
  generalize 9998 = d
  have hu := hT.run_und he w
  rw [hx] at hu
  have hag := hT.run_agg he w
  rw [hx] at hag
  have hsz := hT.run_size he w
  rw [hs] at hsz
  have one : ∀ (k : IntKind) (a : Int), (Instr.checkKey em (d + 1) e (.int k a)).run P w = .ok () w := fun k a => by
    unfold Instr.checkKey; simp [hu]
  unfold Instr.checkKey
  simp only [Sem.run_bind, run_underlying ht, Result.andThen_ok, hsz]
  have p0 : ∀ (u v : Value), (part e #[u, v] (0 * 1)).run P w = .ok u w := fun u v => by simp [part, hag, aggU]
  have p1 : ∀ (u v : Value), (part e #[u, v] (1 * 1)).run P w = .ok v w := fun u v => by simp [part, hag, aggU]
  simp only [Std.Legacy.Range.forIn_eq_forIn_range', Std.Legacy.Range.size, Nat.sub_zero, Nat.add_one_sub_one, Nat.div_one]
  rw [show List.range' 0 2 1 = [0, 1] from rfl]
  simp [List.forIn_cons, hsz, p0, p1, one]

theorem run_checkKey_int {P : Program} {t : TypeId} {kk k : IntKind} {a : Int} {em : Bool} (ht : P.underlying t = some (.int kk)) (w : World) : (Instr.checkKey em 10000 t (.int k a)).run P w = .ok () w := by
  have hd : Instr.checkKey em 10000 t (.int k a) = Instr.checkKey em (9999 + 1) t (.int k a) := rfl
  rw [hd]
  generalize 9999 = d
  unfold Instr.checkKey
  simp [run_underlying ht]
theorem run_checkKey_str {P : Program} {t : TypeId} {s : ByteArray} {em : Bool} (ht : P.underlying t = some .string) (w : World) : (Instr.checkKey em 10000 t (.string s)).run P w = .ok () w := by
  have hd : Instr.checkKey em 10000 t (.string s) = Instr.checkKey em (9999 + 1) t (.string s) := rfl
  rw [hd]
  generalize 9999 = d
  unfold Instr.checkKey
  simp [run_underlying ht]

/-- The place and the value of a key. -/
noncomputable def findA (kd : Nat) (k : AV) : List (AV × AV × Nat) → Nat → Option (Option (Nat × AV))
  | [], _ => some none
  | (k', v, _) :: es, i => (match keqA kd k k' with
    | some true => some (some (i, v))
    | some false => findA kd k es (i + 1)
    | none => none)

def FR (E : Em) (r : Option (Nat × AV)) (q : Option (Nat × Value)) : Prop :=
  match r, q with
  | none, none => True
  | some (i, v), some (j, u) => i = j ∧ RV E v u
  | _, _ => False

/-- Is a key of the kind? -/
def keyOk (kd : Nat) (x : AV) : Bool :=
  match kd, x with
  | 0, .int _ _ => true
  | 1, .str _ => true
  | 2, .agg [.int _ _, .int _ _] => true
  | _, _ => false

theorem keqA_now {E : Em} {T : Tr TI} {u : TypeDesc} {kd : Nat} (hk : kindK T u = some kd) (h2 : kd ≠ 2) {x y : AV} {a b : Value} {r : Bool} (h : keqA kd x y = some r) (hx : RV E x a) (hy : RV E y b) : Instr.sameNow u a b = some r := by
  unfold kindK at hk
  split at hk
  · injection hk with hk
    subst hk
    unfold keqA at h
    split at h
    · rename_i heq _ _
      split at h
      · rename_i hkk
        injection h with h
        obtain rfl := hx.int_inv
        obtain rfl := hy.int_inv
        simp only [Instr.sameNow]
        rw [if_pos (ik_inj hkk), ← h, eqI_eq]
      · cases h
    · exfalso; omega
    · exfalso; omega
    · cases h
  · injection hk with hk
    subst hk
    unfold keqA at h
    split at h
    · exfalso; omega
    · injection h with h
      obtain ⟨q, hq, rfl⟩ := hx.str_inv
      obtain ⟨q', hq', rfl⟩ := hy.str_inv
      simp only [Instr.sameNow]
      rw [← h, eqL_eq, ← hq, ← hq', ← str_eq]
      congr 1
      have e : (q == q') = (q.data == q'.data) := by cases q; cases q'; rfl
      rw [e, Bool.eq_iff_iff, beq_iff_eq, beq_iff_eq, Lib.toList_data, Lib.toList_data, Array.toList_inj]
    · exfalso; omega
    · cases h
  · split at hk
    · split at hk
      · injection hk with hk; exact absurd hk.symm h2
      · cases hk
    · cases hk
  · cases hk

theorem findA_now {E : Em} {T : Tr TI} {u : TypeDesc} {kd : Nat} (hk : kindK T u = some kd) (h2 : kd ≠ 2) {k : AV} {kv : Value} (hkv : RV E k kv) :
    ∀ (es : List (AV × AV × Nat)) (xs : List MapEntry) (i : Nat) (r : Option (Nat × AV)), findA kd k es i = some r → REs E es xs → ∃ q, Instr.findNow u kv xs i = some q ∧ FR E r q
  | [], [], i, r, h, _ => by
    simp only [findA, Option.some.injEq] at h
    subst h
    exact ⟨none, rfl, trivial⟩
  | [], _ :: _, i, r, h, hr => hr.elim
  | _ :: _, [], i, r, h, hr => hr.elim
  | (k', v, n) :: es, x :: xs, i, r, h, ⟨h3, h4, h5, h6⟩ => by
    simp only [findA] at h
    split at h
    · rename_i he
      injection h with h
      subst h
      exact ⟨some (i, x.val), by simp [Instr.findNow, keqA_now hk h2 he hkv h3], rfl, h4⟩
    · rename_i he
      obtain ⟨q, hq, hf⟩ := findA_now hk h2 hkv es xs (i + 1) r h h6
      exact ⟨q, by simp [Instr.findNow, keqA_now hk h2 he hkv h3, hq], hf⟩
    · cases h

theorem keqA_two {E : Em} {P : Program} {T : Tr TI} {t : TypeId} {u : TypeDesc} {w : World} (hT : Tys P T) (ht : P.underlying t = some u) (hk : kindK T u = some 2) {x y : AV} {a b : Value} {r : Bool} (h : keqA 2 x y = some r) (hx : RV E x a) (hy : RV E y b) :
    (Op.equal t a b).run P w = .ok r w := by
  obtain ⟨e, te, kk, rfl, he, hu, hs⟩ := kindK_two hT hk
  unfold keqA at h
  split at h
  · exfalso; omega
  · exfalso; omega
  · split at h
    · rename_i h1 h2
      injection h with h
      obtain rfl := two_inv hx
      obtain rfl := two_inv hy
      rw [run_equal_two hT ht he hu hs (ik_inj h1) (ik_inj h2), ← h, eqI_eq, eqI_eq]
    · cases h
  · cases h

theorem findA_ask {E : Em} {P : Program} {T : Tr TI} {t : TypeId} {u : TypeDesc} {w : World} (hT : Tys P T) (ht : P.underlying t = some u) (hk : kindK T u = some 2) {k : AV} {kv : Value} (hkv : RV E k kv) :
    ∀ (es : List (AV × AV × Nat)) (xs : List MapEntry) (i : Nat) (r : Option (Nat × AV)), findA 2 k es i = some r → REs E es xs → ∃ q, (Instr.findAsking t kv xs i).run P w = .ok q w ∧ FR E r q
  | [], [], i, r, h, _ => by
    simp only [findA, Option.some.injEq] at h
    subst h
    exact ⟨none, rfl, trivial⟩
  | [], _ :: _, i, r, h, hr => hr.elim
  | _ :: _, [], i, r, h, hr => hr.elim
  | (k', v, n) :: es, x :: xs, i, r, h, ⟨h3, h4, h5, h6⟩ => by
    simp only [findA] at h
    split at h
    · rename_i he
      injection h with h
      subst h
      exact ⟨some (i, x.val), by simp [Instr.findAsking, keqA_two hT ht hk he hkv h3], rfl, h4⟩
    · rename_i he
      obtain ⟨q, hq, hf⟩ := findA_ask (w := w) hT ht hk hkv es xs (i + 1) r h h6
      exact ⟨q, by simp [Instr.findAsking, keqA_two hT ht hk he hkv h3, hq], hf⟩
    · cases h

theorem findKey_sound {E : Em} {P : Program} {T : Tr TI} {t : TypeId} {u : TypeDesc} {kd : Nat} {w : World} (hT : Tys P T) (ht : P.underlying t = some u) (hk : kindK T u = some kd) {k : AV} {kv : Value} (hkv : RV E k kv)
    {es : List (AV × AV × Nat)} {xs : List MapEntry} {r : Option (Nat × AV)} (h : findA kd k es 0 = some r) (hr : REs E es xs) : ∃ q, (Instr.findKey t kv xs).run P w = .ok q w ∧ FR E r q := by
  by_cases h2 : kd = 2
  · subst h2
    obtain ⟨q, hq, hf⟩ := findA_ask (w := w) hT ht hk hkv es xs 0 r h hr
    refine ⟨q, ?_, hf⟩
    obtain ⟨e, te, kk, rfl, he, hu, hs⟩ := kindK_two hT hk
    cases xs with
    | nil =>
      simp only [Instr.findAsking, Sem.run_pure, Result.ok.injEq, and_true] at hq
      subst hq
      simp [Instr.findKey, run_underlying ht, Instr.findNow]
    | cons x xs =>
      have : Instr.findNow (.array 2 e) kv (x :: xs) 0 = none := by simp [Instr.findNow, Instr.sameNow]
      simp [Instr.findKey, run_underlying ht, this, hq]
  · obtain ⟨q, hq, hf⟩ := findA_now hk h2 hkv es xs 0 r h hr
    exact ⟨q, by simp [Instr.findKey, run_underlying ht, hq], hf⟩

theorem checkKey_sound {E : Em} {P : Program} {T : Tr TI} {t : TypeId} {u : TypeDesc} {kd : Nat} {w : World} {em : Bool} (hT : Tys P T) (ht : P.underlying t = some u) (hk : kindK T u = some kd) {k : AV} {kv : Value} (ho : keyOk kd k = true) (hkv : RV E k kv) :
    (Instr.checkKey em 10000 t kv).run P w = .ok () w := by
  have hk0 := hk
  unfold kindK at hk
  unfold keyOk at ho
  split at ho
  · obtain rfl := hkv.int_inv
    split at hk
    · exact run_checkKey_int ht w
    · cases hk
    · split at hk
      · split at hk <;> cases hk
      · cases hk
    · cases hk
  · obtain ⟨q, hq, rfl⟩ := hkv.str_inv
    split at hk
    · cases hk
    · exact run_checkKey_str ht w
    · split at hk
      · split at hk <;> cases hk
      · cases hk
    · cases hk
  · obtain rfl := two_inv hkv
    obtain ⟨e, te, kk, rfl, he, hu, hs⟩ := kindK_two hT hk0
    exact run_checkKey_two hT ht he hu hs w
  · cases ho

/-! Looking up. -/
noncomputable def lookupA (T : Tr TI) (m : Tr AObj) (ti : TI) (x k : AV) (ok : Bool) : Option AV :=
  match ti.u with
  | .map kt et => (match T.get kt, T.get et with
    | some tk, some te => (match kindK T tk.u, te.i.zero with
      | some kd, some z => (match keyOk kd k with
        | true => (match (match x with
            | .nilm => some none
            | .map b => (match m.get b with
              | some (.map es _) => findA kd k es 0
              | _ => none)
            | _ => none) with
          | some none => some (match ok with | true => .tup [ofV z, .bool false] | false => ofV z)
          | some (some (_, v)) => some (match ok with | true => .tup [v, .bool true] | false => v)
          | none => none)
        | false => none)
      | _, _ => none)
    | _, _ => none)
  | _ => none
theorem lookupA_sound {E : Em} {P : Program} {T : Tr TI} {t : TypeId} {ti : TI} {m : Tr AObj} {w : World} {x k : AV} {a kv : Value} {ok : Bool} {v : AV} (hT : Tys P T) (ht : T.get t = some ti) (hm : RH E m.get w) (h : lookupA T m ti x k ok = some v) (hx : RV E x a) (hkv : RV E k kv) :
    ∃ v', (Instr.lookup t a kv ok).run P w = .ok v' w ∧ RV E v v' := by
  have hu := hT.run_und ht w
  have two : ∀ {v : AV} {u : Value} (b : Bool), RV E v u → RV E (.tup [v, .bool b]) (.tuple #[u, .bool b]) := fun b hv => .tup _ _ (.cons _ _ _ _ hv (.cons _ _ _ _ (.bool b) .nil))
  unfold lookupA at h
  split at h
  · rename_i kt et hu'
    rw [hu'] at hu
    split at h
    · rename_i tk te htk hte
      split at h
      · rename_i kd z hkd hz
        have hz := hT.run_zero hte hz w
        split at h
        · rename_i ho
          have hck : ∀ em, (Instr.checkKey em 10000 kt kv).run P w = .ok () w := fun em => checkKey_sound hT (hT.und htk) hkd ho hkv
          split at h
          · rename_i hf
            injection h with h
            have key : ∃ v', RV E v v' ∧ v' = (if ok then .tuple #[z, .bool false] else z) := by
              subst h
              cases ok
              · exact ⟨z, rv_ofV E z, rfl⟩
              · exact ⟨_, two false (rv_ofV E z), rfl⟩
            obtain ⟨v', hv, rfl⟩ := key
            refine ⟨_, ?_, hv⟩
            split at hf
            · obtain rfl := hx.nilm_inv
              have hn : (Instr.findKey kt kv []).run P w = .ok none w := by
                have := (hT.und htk)
                simp [Instr.findKey, run_underlying this, Instr.findNow]
              simp only [Instr.lookup, Sem.run_bind, hu, Result.andThen_ok, Sem.run_pure]
              simp [hck, hn, hz]
            · rename_i b
              obtain ⟨l, hl, rfl⟩ := hx.map_inv
              split at hf
              · rename_i es ck hb
                obtain ⟨l', xs, h1, h2, h3⟩ := hm.obj b _ hb
                rw [hl] at h1
                injection h1 with h1
                subst h1
                obtain ⟨q, hq, hfr⟩ := findKey_sound (w := w) hT (hT.und htk) hkd hkv hf h3
                cases q with
                | some _ => exact hfr.elim
                | none =>
                have hg : (getObj l.blk).run P w = .ok (.map xs ck) w := by simp [getObj, Sem.run, h2]
                simp only [Instr.lookup, Sem.run_bind, hu, Result.andThen_ok, hg, Sem.run_pure]
                simp [hck, hq, hz]
              · cases hf
            · cases hf
          · rename_i i y hf
            injection h with h
            split at hf
            · cases hf
            · rename_i b
              obtain ⟨l, hl, rfl⟩ := hx.map_inv
              split at hf
              · rename_i es ck hb
                obtain ⟨l', xs, h1, h2, h3⟩ := hm.obj b _ hb
                rw [hl] at h1
                injection h1 with h1
                subst h1
                obtain ⟨q, hq, hfr⟩ := findKey_sound (w := w) hT (hT.und htk) hkd hkv hf h3
                cases q with
                | none => exact hfr.elim
                | some q =>
                obtain ⟨j, u⟩ := q
                have hyu : RV E y u := hfr.2
                have key : ∃ v', RV E v v' ∧ v' = (if ok then .tuple #[u, .bool true] else u) := by
                  subst h
                  cases ok
                  · exact ⟨u, hyu, rfl⟩
                  · exact ⟨_, two true hyu, rfl⟩
                obtain ⟨v', hv, rfl⟩ := key
                refine ⟨_, ?_, hv⟩
                have hg : (getObj l.blk).run P w = .ok (.map xs ck) w := by simp [getObj, Sem.run, h2]
                simp only [Instr.lookup, Sem.run_bind, hu, Result.andThen_ok, hg, Sem.run_pure]
                simp [hck, hq]
              · cases hf
            · cases hf
          · cases h
        · cases h
      · cases h
    · cases h
  · cases h
end Go.Ev
namespace Go.Ev
set_option linter.unusedVariables false
set_option linter.unusedSimpArgs false

/-! ALL QUIET OPERATIONS: what they answer; they leave the world alone. -/
def isC : Operand → Bool
  | .const _ => true
  | _ => false

noncomputable def evs (G : Nat) (t : Tr AV) : List Operand → List AV
  | [] => []
  | x :: l => evo G t x :: evs G t l
noncomputable def evp (G : Nat) (t : Tr AV) : List (Nat × Operand) → List (Nat × AV)
  | [] => []
  | (i, x) :: l => (i, evo G t x) :: evp G t l
theorem evs_map (G : Nat) (t : Tr AV) : ∀ l, evs G t l = l.map (evo G t)
  | [] => rfl
  | x :: l => by simp [evs, evs_map G t l]
theorem evp_map (G : Nat) (t : Tr AV) : ∀ l : List (Nat × Operand), evp G t l = l.map fun p => (p.1, evo G t p.2)
  | [] => rfl
  | (i, x) :: l => by simp [evp, evp_map G t l]
noncomputable def evq (G : Nat) (t : Tr AV) : Option Operand → Option AV
  | none => none
  | some x => some (evo G t x)

noncomputable def zAgg (ti : TI) : Bool := match ti.i.zero with
  | some z => isAggV z
  | none => false

noncomputable def lengthA (u : TypeDesc) (m : Tr AObj) (x : AV) : Option AV :=
  match u, x with
  | .string, .str l => some (.int .i64 (.ofNat l.length))
  | .array n _, _ => some (.int .i64 (.ofNat n))
  | .slice _, .nils => some (.int .i64 (.ofNat 0))
  | .slice _, .sl _ _ n _ _ => some (.int .i64 (.ofNat n))
  | .map _ _, .nilm => some (.int .i64 (.ofNat 0))
  | .map _ _, .map b => (match m.get b with | some (.map es _) => some (.int .i64 (.ofNat es.length)) | _ => none)
  | _, _ => none

theorem REs.length {E : Em} : ∀ {es : List (AV × AV × Nat)} {xs : List MapEntry}, REs E es xs → es.length = xs.length
  | [], [], _ => rfl
  | _ :: es, _ :: xs, ⟨_, _, _, h⟩ => congrArg (· + 1) (REs.length h)
  | [], _ :: _, h => h.elim
  | _ :: _, [], h => h.elim

theorem lengthA_sound {E : Em} {P : Program} {T : Tr TI} {t ty : TypeId} {ti : TI} {m : Tr AObj} {w : World} {x : AV} {a : Value} {v : AV} {ts : Array TypeId} (hT : Tys P T) (ht : T.get t = some ti) (hts : ts[0]? = some t) (hm : RH E m.get w) (h : lengthA ti.u m x = some v) (hx : RV E x a) :
    ∃ v', (Builtin.len_ ts ty #[a]).run P w = .ok v' w ∧ RV E v v' := by
  have hu := hT.run_und ht w
  unfold lengthA at h
  split at h
  · rename_i l hu'
    rw [hu'] at hu
    injection h with h
    subst h
    obtain ⟨q, hq, rfl⟩ := hx.str_inv
    refine ⟨.int .i64 (q.size : Int), by simp [Builtin.len_, hts, hu, goInt], ?_⟩
    have : l.length = q.size := by rw [← hq]; simp
    rw [this]; exact .int _ _
  · rename_i n e hu'
    rw [hu'] at hu
    injection h with h
    subst h
    exact ⟨_, by simp [Builtin.len_, hts, hu, goInt], .int _ _⟩
  · rename_i hu'
    rw [hu'] at hu
    injection h with h
    subst h
    obtain rfl := hx.nils_inv
    exact ⟨_, by simp [Builtin.len_, hts, hu, goInt], .int _ _⟩
  · rename_i hu'
    rw [hu'] at hu
    injection h with h
    subst h
    obtain ⟨l, ad, c, _, _, _, _, _, rfl⟩ := hx.sl_inv
    exact ⟨_, by simp [Builtin.len_, hts, hu, goInt], .int _ _⟩
  · rename_i hu'
    rw [hu'] at hu
    injection h with h
    subst h
    obtain rfl := hx.nilm_inv
    exact ⟨_, by simp [Builtin.len_, hts, hu, goInt], .int _ _⟩
  · rename_i b hu'
    rw [hu'] at hu
    obtain ⟨l, hl, rfl⟩ := hx.map_inv
    split at h
    · rename_i es ck hb
      injection h with h
      subst h
      obtain ⟨l', xs, h1, h2, h3⟩ := hm.obj b _ hb
      rw [hl] at h1
      injection h1 with h1
      subst h1
      have hg : (getObj l.blk).run P w = .ok (.map xs ck) w := by simp [getObj, Sem.run, h2]
      refine ⟨.int .i64 (xs.size : Int), by simp [Builtin.len_, hts, hu, hg, goInt], ?_⟩
      rw [h3.length]
      simp only [Array.length_toList]
      exact .int _ _
    · cases h
  · cases h

noncomputable def minA (gt : Bool) (x y : AV) : Option AV :=
  match x, y with
  | .int k a, .int _ b => some (.int k (match (match gt with | true => ltI a b | false => ltI b a) with | true => b | false => a))
  | _, _ => none

noncomputable def builtinA (T : Tr TI) (m : Tr AObj) (b : Builtin) (ts : Array TypeId) (xs : List AV) : Option AV :=
  match b, xs with
  | .len, [x] => (match ts[0]? with
    | some t => (match T.get t with | some ti => lengthA ti.u m x | none => none)
    | none => none)
  | .cap, [.sl _ _ _ (some c) _] => (match ts[0]? with
    | some t => (match T.get t with
      | some ti => (match ti.u with | .slice _ => some (.int .i64 (.ofNat c)) | _ => none)
      | none => none)
    | none => none)
  | .cap, [.nils] => (match ts[0]? with
    | some t => (match T.get t with
      | some ti => (match ti.u with | .slice _ => some (.int .i64 (.ofNat 0)) | _ => none)
      | none => none)
    | none => none)
  | .min, [x, y] => minA false x y
  | .max, [x, y] => minA true x y
  | _, _ => none

theorem RVs.one_inv {E : Em} {x : AV} {l : List Value} (h : RVs E [x] l) : ∃ a, l = [a] ∧ RV E x a := by
  cases h with | cons v w vs ws h1 h2 => cases h2; exact ⟨w, rfl, h1⟩
theorem RVs.two_inv {E : Em} {x y : AV} {l : List Value} (h : RVs E [x, y] l) : ∃ a b, l = [a, b] ∧ RV E x a ∧ RV E y b := by
  cases h with | cons v w vs ws h1 h2 => obtain ⟨b, rfl, hb⟩ := h2.one_inv; exact ⟨w, b, rfl, h1, hb⟩

theorem builtinA_sound {E : Em} {P : Program} {T : Tr TI} {ty : TypeId} {m : Tr AObj} {w : World} {b : Builtin} {ts : Array TypeId} {cs : Array Bool} {xs : List AV} {as : Array Value} {v : AV} (hT : Tys P T) (hm : RH E m.get w) (h : builtinA T m b ts xs = some v) (hx : RVs E xs as.toList) :
    ∃ v', (builtin b ts ty cs as).run P w = .ok (.value v') w ∧ RV E v v' := by
  have arr : ∀ l : List Value, as.toList = l → as = l.toArray := fun l h => by rw [← h]
  unfold builtinA at h
  split at h
  · split at h
    · rename_i t hts
      split at h
      · rename_i ti ht
        obtain ⟨a, ha, hxa⟩ := hx.one_inv
        obtain rfl := arr _ ha
        obtain ⟨v', hv, hr⟩ := lengthA_sound (ty := ty) hT ht hts hm h hxa
        exact ⟨v', by simp [builtin, hv], hr⟩
      · cases h
    · cases h
  · split at h
    · rename_i t hts
      split at h
      · rename_i ti ht
        split at h
        · rename_i e hu'
          have hu := hT.run_und ht w
          rw [hu'] at hu
          injection h with h
          subst h
          obtain ⟨a, ha, hxa⟩ := hx.one_inv
          obtain rfl := arr _ ha
          obtain ⟨l, ad, c, _, hc, _, _, _, rfl⟩ := hxa.sl_inv
          have := hc _ rfl
          subst this
          exact ⟨_, by simp [builtin, Builtin.cap_, hts, hu, goInt], .int _ _⟩
        · cases h
      · cases h
    · cases h
  · split at h
    · rename_i t hts
      split at h
      · rename_i ti ht
        split at h
        · rename_i e hu'
          have hu := hT.run_und ht w
          rw [hu'] at hu
          injection h with h
          subst h
          obtain ⟨a, ha, hxa⟩ := hx.one_inv
          obtain rfl := arr _ ha
          obtain rfl := hxa.nils_inv
          exact ⟨_, by simp [builtin, Builtin.cap_, hts, hu, goInt], .int _ _⟩
        · cases h
      · cases h
    · cases h
  · obtain ⟨a, b', ha, h1, h2⟩ := hx.two_inv
    obtain rfl := arr _ ha
    unfold minA at h
    split at h
    · injection h with h
      subst h
      obtain rfl := h1.int_inv
      obtain rfl := h2.int_inv
      rename_i k p k' q
      refine ⟨.int k (if q < p then q else p), by simp [builtin, Builtin.min_, Builtin.min2], ?_⟩
      simp only [ltI_eq]
      by_cases hq : q < p
      · simp only [hq, decide_true, if_true]; exact .int _ _
      · simp only [hq, decide_false, if_false]; exact .int _ _
    · cases h
  · obtain ⟨a, b', ha, h1, h2⟩ := hx.two_inv
    obtain rfl := arr _ ha
    unfold minA at h
    split at h
    · injection h with h
      subst h
      obtain rfl := h1.int_inv
      obtain rfl := h2.int_inv
      rename_i k p k' q
      refine ⟨.int k (if q > p then q else p), by simp [builtin, Builtin.max_, Builtin.max2], ?_⟩
      simp only [ltI_eq]
      by_cases hq : p < q
      · simp only [hq, decide_true, if_true, gt_iff_lt]; exact .int _ _
      · simp only [hq, decide_false, if_false, gt_iff_lt]; exact .int _ _
    · cases h
  · cases h

noncomputable def qop (G : Nat) (T : Tr TI) (t : Tr AV) (m : Tr AObj) (o : Op) : Option AV :=
  match o with
  | .move x => some (evo G t x)
  | .assign x => some (evo G t x)
  | .pick c a b => (match evo G t c with
    | .bool true => some (evo G t a)
    | .bool false => some (evo G t b)
    | _ => none)
  | .nilCheck x => (match evo G t x with
    | .ptr b off => some (.ptr b off)
    | .func f x y => some (.func f x y)
    | .iface d v => some (.iface d v)
    | _ => none)
  | .binOp op xt x y _ => (match T.get xt with
    | some ti => binA ti.u (isC x || isC y) op (evo G t x) (evo G t y)
    | none => none)
  | .unOp op _ x => unA op (evo G t x)
  | .convert s d x => (match T.get s, T.get d with
    | some ts, some td => convA T ts td (evo G t x) m
    | _, _ => none)
  | .makeInterface xt x => (match T.get xt with
    | some ti => (match ti.u with | .interface _ => none | _ => some (.iface xt (evo G t x)))
    | none => none)
  | .makeFunc (.func f) first captured => some (.func f (evs G t first.toList) (evs G t captured.toList))
  | .build xt ps => (match T.get xt with
    | some ti => (match zAgg ti with | true => buildA T ti (evp G t ps.toList) | false => none)
    | none => none)
  | .field xt x f => (match T.get xt with
    | some ti => fieldA T ti (evo G t x) f
    | none => none)
  | .index xt x i => (match T.get xt with
    | some ti => indexA T ti (evo G t x) (evo G t i)
    | none => none)
  | .extract x i => extractA (evo G t x) i
  | .fieldAddr xt x f => (match T.get xt with
    | some ti => fieldAddrA T ti (evo G t x) f
    | none => none)
  | .indexAddr xt x i => (match T.get xt with
    | some ti => indexAddrA T ti (evo G t x) (evo G t i)
    | none => none)
  | .slice xt x lo hi mx => (match T.get xt with
    | some ti => sliceA T m ti (evo G t x) (evq G t lo) (evq G t hi) (evq G t mx)
    | none => none)
  | .load xt a => (match T.get xt with
    | some ti => loadA ti m (evo G t a)
    | none => none)
  | .lookup xt x k ok => (match T.get xt with
    | some ti => lookupA T m ti (evo G t x) (evo G t k) ok
    | none => none)
  | .typeAssert x _ at_ ok => (match T.get at_ with
    | some ti => assertA T at_ ti ok (evo G t x)
    | none => none)
  | .call ⟨.builtin b, args, ts⟩ => builtinA T m b ts (evs G t args.toList)
  | _ => none

theorem orv_map {E : Em} {G : Nat} {t : Tr AV} {ρ : Operand → Value} {x : Option Operand} (h : ∀ y ∈ x.toArray, RV E (evo G t y) (ρ y)) : ORV E (evq G t x) (x.map ρ) := by
  cases x with
  | none => exact trivial
  | some y => exact h y (by simp)

theorem qop_sound {E : Em} {P : Program} {G : Nat} {T : Tr TI} {t : Tr AV} {m : Tr AObj} {w : World} {ρ : Operand → Value} {o : Oper} {v : AV} (hT : Tys P T) (hm : RH E m.get w) (h : qop G T t m o.op = some v) (hρ : ∀ x ∈ o.op.operands, RV E (evo G t x) (ρ x)) :
    ∃ v', (execOp ρ o).run P w = .ok (.value v') w ∧ RV E v v' := by
  obtain ⟨dst, op, ty, pos, after, guard⟩ := o
  simp only at h hρ
  cases op <;> simp only [qop] at h <;> try (cases h; done)
  case move x => injection h with h; subst h; exact ⟨_, by simp [execOp], hρ x (by simp [Op.operands])⟩
  case assign x => injection h with h; subst h; exact ⟨_, by simp [execOp], hρ x (by simp [Op.operands])⟩
  case pick c a b =>
    have hc := hρ c (by simp [Op.operands])
    split at h
    · rename_i hcc
      rw [hcc] at hc
      injection h with h
      subst h
      exact ⟨_, by simp [execOp, hc.bool_inv, asBool], hρ a (by simp [Op.operands])⟩
    · rename_i hcc
      rw [hcc] at hc
      injection h with h
      subst h
      exact ⟨_, by simp [execOp, hc.bool_inv, asBool], hρ b (by simp [Op.operands])⟩
    · cases h
  case nilCheck x =>
    have hx := hρ x (by simp [Op.operands])
    split at h
    · rename_i b off hxx
      rw [hxx] at hx
      injection h with h
      subst h
      obtain ⟨l, hl, he⟩ := hx.ptr_inv
      exact ⟨_, by simp [execOp, he], .ptr _ _ _ hl⟩
    · rename_i f p q hxx
      rw [hxx] at hx
      injection h with h
      subst h
      obtain ⟨p', q', h1, h2, he⟩ := hx.func_inv
      exact ⟨_, by simp [execOp, he], .func _ _ _ _ _ h1 h2⟩
    · rename_i d y hxx
      rw [hxx] at hx
      injection h with h
      subst h
      obtain ⟨u, hu, he⟩ := hx.iface_inv
      exact ⟨_, by simp [execOp, he], .iface _ _ _ hu⟩
    · cases h
  case binOp op xt x y yt =>
    split at h
    · rename_i ti ht
      obtain ⟨v', hv, hr⟩ := binA_sound (xo := x) (yo := y) (hT.und ht) h (hρ x (by simp [Op.operands])) (hρ y (by simp [Op.operands]))
        (fun hc => by cases x <;> cases y <;> simp_all [isC]) w
      refine ⟨v', ?_, hr⟩
      simp only [execOp, Sem.run_bind] at hv ⊢
      rw [hv]; rfl
    · cases h
  case unOp op xt x =>
    obtain ⟨v', hv, hr⟩ := unA_sound (P := P) h (hρ x (by simp [Op.operands])) w
    exact ⟨v', by simp [execOp, hv], hr⟩
  case convert s d x =>
    split at h
    · rename_i ts td hs hd
      obtain ⟨v', hv, hr⟩ := convA_sound hT hs hd hm h (hρ x (by simp [Op.operands]))
      exact ⟨v', by simp [execOp, hv], hr⟩
    · cases h
  case makeInterface xt x =>
    split at h
    · rename_i ti ht
      split at h
      · cases h
      · rename_i hni
        injection h with h
        subst h
        have hu := hT.run_und ht w
        refine ⟨_, ?_, .iface xt _ _ (hρ x (by simp [Op.operands]))⟩
        cases hd : ti.u <;> rw [hd] at hu hni <;> first
          | exact absurd rfl (hni _)
          | simp [execOp, Instr.makeInterface, hu]
    · cases h
  case makeFunc fn first captured =>
    cases fn <;> simp only at h <;> try (cases h; done)
    rename_i f
    injection h with h
    subst h
    refine ⟨.func (.func f) (first.map ρ) (captured.map ρ), by simp [execOp, Instr.makeFunc], .func _ _ _ _ _ ?_ ?_⟩
    · rw [evs_map, Array.toList_map]
      exact RVs.map _ _ _ fun x hx => hρ x (by simp [Op.operands]; exact .inl (by simpa using hx))
    · rw [evs_map, Array.toList_map]
      exact RVs.map _ _ _ fun x hx => hρ x (by simp [Op.operands]; exact .inr (by simpa using hx))
  case build xt ps =>
    split at h
    · rename_i ti ht
      split at h
      · rename_i hz
        rw [evp_map] at h
        obtain ⟨v', hv, hr⟩ := buildA_sound (w := w) (evo G t) ρ hT ht h (fun z hzz => by unfold zAgg at hz; rw [hzz] at hz; exact hz) (fun p hp => hρ p.2 (by simp [Op.operands]; exact ⟨p.1, by simpa using hp⟩))
        refine ⟨v', ?_, hr⟩
        have e : (ps.map fun (x : Nat × Operand) => (x.1, ρ x.2)) = (ps.toList.map fun p => (p.1, ρ p.2)).toArray := Array.toList_inj.1 (by rw [Array.toList_map])
        rw [← e] at hv
        show Sem.run P (do pure (Next.value (← Instr.build xt (ps.map fun (x : Nat × Operand) => (x.1, ρ x.2)))) : Sem Next) w = _
        simp [hv]
      · cases h
    · cases h
  case field xt x f =>
    split at h
    · rename_i ti ht
      obtain ⟨v', hv, hr⟩ := fieldA_sound (w := w) hT ht h (hρ x (by simp [Op.operands]))
      exact ⟨v', by simp [execOp, hv], hr⟩
    · cases h
  case index xt x i =>
    split at h
    · rename_i ti ht
      obtain ⟨v', hv, hr⟩ := indexA_sound (w := w) hT ht h (hρ x (by simp [Op.operands])) (hρ i (by simp [Op.operands]))
      exact ⟨v', by simp [execOp, hv], hr⟩
    · cases h
  case extract x i =>
    obtain ⟨v', hv, hr⟩ := extractA_sound (P := P) (w := w) h (hρ x (by simp [Op.operands]))
    exact ⟨v', by simp [execOp, hv], hr⟩
  case fieldAddr xt x f =>
    split at h
    · rename_i ti ht
      obtain ⟨v', hv, hr⟩ := fieldAddrA_sound (w := w) hT ht h (hρ x (by simp [Op.operands]))
      exact ⟨v', by simp [execOp, hv], hr⟩
    · cases h
  case indexAddr xt x i =>
    split at h
    · rename_i ti ht
      obtain ⟨v', hv, hr⟩ := indexAddrA_sound (w := w) hT ht h (hρ x (by simp [Op.operands])) (hρ i (by simp [Op.operands]))
      exact ⟨v', by simp [execOp, hv], hr⟩
    · cases h
  case slice xt x lo hi mx =>
    split at h
    · rename_i ti ht
      obtain ⟨v', hv, hr⟩ := sliceA_sound hT ht hm h (hρ x (by simp [Op.operands])) (orv_map fun y hy => hρ y (by simp [Op.operands]; simp at hy; simp [hy]))
        (orv_map fun y hy => hρ y (by simp [Op.operands]; simp at hy; simp [hy])) (orv_map fun y hy => hρ y (by simp [Op.operands]; simp at hy; simp [hy]))
      exact ⟨v', by simp [execOp, hv], hr⟩
    · cases h
  case load xt a =>
    split at h
    · rename_i ti ht
      obtain ⟨v', hv, hr⟩ := loadA_sound hT ht hm h (hρ a (by simp [Op.operands]))
      exact ⟨v', by simp [execOp, hv], hr⟩
    · cases h
  case lookup xt x k ok =>
    split at h
    · rename_i ti ht
      obtain ⟨v', hv, hr⟩ := lookupA_sound hT ht hm h (hρ x (by simp [Op.operands])) (hρ k (by simp [Op.operands]))
      exact ⟨v', by simp [execOp, hv], hr⟩
    · cases h
  case typeAssert x xt at_ ok =>
    split at h
    · rename_i ti ht
      obtain ⟨v', hv, hr⟩ := assertA_sound (w := w) (xt := xt) hT ht h (hρ x (by simp [Op.operands]))
      exact ⟨v', by simp [execOp, hv], hr⟩
    · cases h
  case call c =>
    obtain ⟨callee, args, ts⟩ := c
    cases callee <;> simp only at h <;> try (cases h; done)
    rename_i b
    have hargs : RVs E (evs G t args.toList) (args.map ρ).toList := by
      rw [evs_map, Array.toList_map]
      exact RVs.map _ _ _ fun x hx => hρ x (by simp [Op.operands, Call.operands]; simpa using hx)
    obtain ⟨v', hv, hr⟩ := builtinA_sound (ty := ty) (cs := args.map fun | .const _ => true | _ => false) hT hm h hargs
    exact ⟨v', by simp only [execOp, resolve, Sem.run_bind, Sem.run_pure, Result.andThen_ok, invoke]; exact hv, hr⟩
end Go.Ev
