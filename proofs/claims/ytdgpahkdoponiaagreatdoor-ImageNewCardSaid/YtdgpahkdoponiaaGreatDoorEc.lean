/- ImageNew answers true for every number of words, whatever lies in memory, where the listed package variables hold what the program's text lays in them. This text is a part of that proof. -/
import Derived.Test.YtdgpahkdoponiaaGreatDoorEb
import Derived.Laws.Append
import Derived.AtR
import Derived.Calls
namespace Go.Ev
set_option linter.unusedVariables false
set_option linter.unusedSimpArgs false

/-! Operations that make one new block and do nothing else. -/
noncomputable def zcells (ti : TI) : Option (List AV) :=
  match ti.i.zero with
  | some z => (match Nat.beq (ofV z).cells.length ti.i.size, (ofV z).cells.all AV.flat with
    | true, true => some (ofV z).cells
    | _, _ => none)
  | none => none
theorem zcells_spec {E : Em} {ti : TI} {l : List AV} (h : zcells ti = some l) : ∃ z, ti.i.zero = some z ∧ RVs E l z.cells.toList ∧ l.length = ti.i.size ∧ l.all AV.flat = true := by
  unfold zcells at h
  split at h
  · rename_i z hz
    split at h
    · rename_i h1 h2
      injection h with h
      subst h
      exact ⟨z, hz, (rv_ofV E z).cells h2, Nat.eq_of_beq_eq_true h1, h2⟩
    · cases h
  · cases h

noncomputable def reps (l : List AV) (n : Nat) : List AV := Nat.rec (motive := fun _ => List AV) [] (fun _ r => l ++ r) n
theorem reps_succ (l : List AV) (n : Nat) : reps l (n + 1) = l ++ reps l n := rfl

theorem reps_rv {E : Em} {l : List AV} {z : Array Value} (h : RVs E l z.toList) (s : Nat) (hs : l.length = s) : ∀ n, RVs E (reps l n) ((Array.range (n * s)).map (z[· % z.size]!)).toList := by
  intro n
  have hz : z.size = s := by rw [← hs, h.length]; simp
  have hl : (reps l n).length = n * s := by
    induction n with
    | zero => rw [Nat.zero_mul]; rfl
    | succ n ih => rw [reps_succ, List.length_append, ih, hs, Nat.succ_mul]; omega
  have at_ : ∀ n i, i < n * s → (reps l n)[i]? = l[i % s]? := by
    intro n
    induction n with
    | zero => intro i hi; omega
    | succ n ih =>
      intro i hi
      rw [reps_succ]
      by_cases h1 : i < s
      · rw [List.getElem?_append_left (by omega), Nat.mod_eq_of_lt h1]
      · rw [List.getElem?_append_right (by omega), hs, ih (i - s) (by rw [Nat.succ_mul] at hi; omega)]
        congr 1
        rw [Nat.mod_eq_sub_mod (by omega : i ≥ s)]
  refine RVs.of (by simp [hl]) fun i x y hx hy => ?_
  have hi : i < n * s := by
    have := (List.getElem?_eq_some_iff.1 hx).1
    omega
  rw [at_ n i hi] at hx
  obtain ⟨u, hu, hv⟩ := h.at _ x hx
  have hlt : i % s < z.size := by
    have : 0 < s := by
      rcases Nat.eq_zero_or_pos s with h0 | h0
      · subst h0; omega
      · exact h0
    rw [hz]; exact Nat.mod_lt _ this
  simp only [Array.toList_map, List.getElem?_map, Array.toList_range, List.getElem?_range hi, Option.map_some, Option.some.injEq] at hy
  have e : z[i % z.size]! = z[i % s]'hlt := by
    rw [hz]; exact getElem!_pos z (i % s) hlt
  rw [e] at hy
  have hu' : z.toList[i % s]? = some (z[i % s]'hlt) := by simp [hlt]
  rw [hu'] at hu
  injection hu with hu
  rw [← hy, hu]
  exact hv

noncomputable def boxA (id : Nat) (l : List AV) : Option (AV × AObj) :=
  match l.all AV.flat with
  | true => some (.ptr id 0, .cells (Tr.e.sets 0 l) false)
  | false => none

/-- A new row of cells. -/
theorem newRow_obj {E : Em} {w w' : World} {id : Nat} {l : List AV} {us : Array Value} {e : TypeId} {fz : Nat × Nat} {spare : Array Value} (hf : E.loc id = none) (hl : RVs E l us.toList) (hfl : l.all AV.flat = true) (hw : w'.heap[w.heap.size]? = some (.cells (us ++ spare) e fz)) (hz : NoFz fz (us ++ spare).size) :
    RObj (E.add id ⟨w.heap.size, 0, (us ++ spare).size⟩) w' id (.cells (Tr.e.sets 0 l) false) := by
  refine ⟨_, us ++ spare, e, fz, Em.loc_add E id _, hw, by simp, fun _ => hz, ?_⟩
  intro i v hv
  rw [get_sets, get_e] at hv
  split at hv
  · rename_i hi
    rw [Nat.sub_zero] at hv
    obtain ⟨u, hu, hr⟩ := hl.at i v hv
    have hlt : i < us.size := by
      have := (List.getElem?_eq_some_iff.1 hu).1
      simpa using this
    refine ⟨by simp; omega, ?_, u, ?_, hr.mono (Em.le_add hf)⟩
    · exact List.all_eq_true.1 hfl v (List.mem_of_getElem? hv)
    · rw [Nat.zero_add, Array.getElem?_append_left hlt]
      simpa using hu
  · cases hv

def Same (w w' : World) : Prop := w'.os = w.os ∧ w'.tape = w.tape ∧ w'.output = w.output

noncomputable def aop (G : Nat) (T : Tr TI) (t : Tr AV) (id : Nat) (o : Op) : Option (AV × AObj) :=
  match o with
  | .alloc e => (match T.get e with
    | some ti => (match zcells ti with | some l => boxA id l | none => none)
    | none => none)
  | .box _ x => boxA id (evo G t x).cells
  | .buildSlice bt len ps => (match T.get bt with
    | some ti => (match ti.u with
      | .slice e => (match T.get e with
        | some te => (match Nat.ble (len * te.i.size) 16777216, zcells te with
          | true, some zc => (match fillA (fun i => some (i * te.i.size, te.i.size)) (reps zc len) (evp G t ps.toList) with
            | some l => (match l.all AV.flat, Nat.beq l.length (len * te.i.size) with | true, true => some (.sl id 0 len (some len) te.i.size, .cells (Tr.e.sets 0 l) false) | _, _ => none)
            | none => none)
          | _, _ => none)
        | none => none)
      | _ => none)
    | none => none)
  | .makeSlice st l c => (match T.get st with
    | some ti => (match ti.u with
      | .slice e => (match T.get e with
        | some te => (match natA (evo G t l), natA (evo G t c), zcells te with
          | some l, some c, some zc => (match Nat.ble l c, Nat.ble (te.i.bytes * c) 1000000000, Nat.ble c 1000000000 with
            | true, true, true => some (.sl id 0 l (some c) te.i.size, .cells (Tr.e.sets 0 (reps zc c)) false)
            | _, _, _ => none)
          | _, _, _ => none)
        | none => none)
      | _ => none)
    | none => none)
  | .makeMap mt none => some (.map id, .map [] 0)
  | .makeMap mt (some x) => (match T.get mt with
    | some ti => (match ti.u, natA (evo G t x) with
      | .map _ _, some _ => some (.map id, .map [] 0)
      | _, _ => none)
    | none => none)
  | .convert s d x => (match T.get s, T.get d, evo G t x with
    | some _, some td, .str l => (match td.u with
      | .slice e => (match isU8 T e with
        | true => some (.sl id 0 l.length none 1, .cells (Tr.e.sets 0 (l.map fun n => AV.int .u8 (.ofNat n))) false)
        | false => none)
      | _ => none)
    | _, _, _ => none)
  | _ => none

def MadeA (P : Program) (E : Em) (w : World) (id : Nat) (v : AV) (ob : AObj) (s : Sem Next) : Prop :=
  ∃ x o v' w', s.run P w = .ok (.value v') w' ∧ w'.heap = w.heap.push o ∧ Same w w' ∧ RV (E.add id ⟨w.heap.size, 0, x⟩) v v' ∧ RObj (E.add id ⟨w.heap.size, 0, x⟩) w' id ob

theorem boxA_sound {E : Em} {P : Program} {w : World} {id : Nat} {l : List AV} {us : Array Value} {e : TypeId} {v : AV} {ob : AObj} {s : Sem Next} (hf : E.loc id = none) (hl : RVs E l us.toList) (h : boxA id l = some (v, ob))
    (hs : s.run P w = .ok (.value (.pointer (some ⟨w.heap.size, 0, none⟩))) { w with heap := w.heap.push (.cells us e) }) : MadeA P E w id v ob s := by
  unfold boxA at h
  split at h
  · rename_i hfl
    injection h with h
    injection h with h1 h2
    subst h1 h2
    refine ⟨us.size, _, _, _, hs, rfl, ⟨rfl, rfl, rfl⟩, .ptr id 0 _ (Em.loc_add E id _), ?_⟩
    have := newRow_obj (e := e) (w := w) (w' := { w with heap := w.heap.push (.cells us e) }) (spare := #[]) (fz := (0, 0)) hf hl hfl (by simp) (fun i _ => by simp)
    simpa using this
  · cases h

theorem aop_sound {E : Em} {P : Program} {G : Nat} {T : Tr TI} {t : Tr AV} {w : World} {ρ : Operand → Value} {o : Oper} {id : Nat} {v : AV} {ob : AObj} (hT : Tys P T) (h : aop G T t id o.op = some (v, ob)) (hf : E.loc id = none) (hρ : ∀ x ∈ o.op.operands, RV E (evo G t x) (ρ x)) :
    MadeA P E w id v ob (execOp ρ o) := by
  obtain ⟨dst, op, ty, pos, after, guard⟩ := o
  simp only at h hρ
  cases op <;> simp only [aop] at h <;> try (cases h; done)
  case alloc e =>
    split at h
    · rename_i ti ht
      split at h
      · rename_i l hl
        obtain ⟨z, hz, hr, _, _⟩ := zcells_spec (E := E) hl
        exact boxA_sound (e := e) hf hr h (by simp [execOp, Instr.alloc, hT.run_zero ht hz, newVar, newRow])
      · cases h
    · cases h
  case box e x =>
    have hx := hρ x (by simp [Op.operands])
    have hall : (evo G t x).cells.all AV.flat = true := by
      unfold boxA at h
      split at h
      · assumption
      · cases h
    exact boxA_sound (e := e) hf (hx.cells hall) h (by simp [execOp, Instr.box, newVar, newRow])
  case buildSlice bt len ps =>
    split at h
    · rename_i ti ht
      split at h
      · rename_i e hu'
        have hu := hT.run_und ht w
        rw [hu'] at hu
        split at h
        · rename_i te hte
          split at h
          · rename_i zc hn hzc
            split at h
            · rename_i l hfill
              split at h
              · rename_i hfl hll
                injection h with h
                injection h with h1 h2
                subst h1 h2
                have hn := Nat.le_of_ble_eq_true hn
                obtain ⟨z, hz, hr, hzl, _⟩ := zcells_spec (E := E) hzc
                have hzr := hT.run_zero hte hz w
                have hbase := reps_rv hr _ hzl len
                rw [evp_map] at hfill
                obtain ⟨q, hq, hout⟩ := fillA_sound (evo G t) ρ ps.toList _ _ l hfill hbase (fun p hp => hρ p.2 (by simp [Op.operands]; exact ⟨p.1, by simpa using hp⟩))
                have hql : q.size = len * te.i.size := by
                  have h3 := hout.length
                  have h4 := Nat.eq_of_beq_eq_true hll
                  simp only [Array.length_toList] at h3
                  omega
                have e1 : (ps.map fun (x : Nat × Operand) => (x.1, ρ x.2)) = (ps.toList.map fun p => (p.1, ρ p.2)).toArray := Array.toList_inj.1 (by rw [Array.toList_map])
                have hbs : (Instr.buildSlice bt len (ps.map fun (x : Nat × Operand) => (x.1, ρ x.2))).run P w = .ok (.slice (some ⟨w.heap.size, 0, none⟩) len len) { w with heap := w.heap.push (.cells q e) } := by
                  simp only [Instr.buildSlice, Sem.run_bind, hu, Result.andThen_ok, hT.run_size hte]
                  rw [if_neg (by omega)]
                  by_cases h0 : len * te.i.size = 0
                  · rw [if_pos h0]
                    rw [h0, Array.range_zero'] at hq
                    simp only [Array.map_empty] at hq
                    simp only [Sem.run_bind, Sem.run_pure, Result.andThen_ok, h0, Array.range_zero', Array.map_empty]
                    rw [e1]
                    simp [hq, newRow]
                  · rw [if_neg h0]
                    simp only [Sem.run_bind, Sem.run_pure, Result.andThen_ok, hzr]
                    rw [e1]
                    simp [hq, newRow]
                refine ⟨q.size, .cells q e, .slice (some ⟨w.heap.size, 0, none⟩) len len, { w with heap := w.heap.push (.cells q e) }, ?_, rfl, ⟨rfl, rfl, rfl⟩,
                  .sl _ _ _ _ _ _ _ _ (Em.loc_add E id _) (fun k hk => Option.some.inj hk) (Nat.le_refl _) (by simp [hql]) (.inl rfl), ?_⟩
                · show Sem.run P (do pure (Next.value (← Instr.buildSlice bt len (ps.map fun (x : Nat × Operand) => (x.1, ρ x.2)))) : Sem Next) w = _
                  simp [hbs]
                · have := newRow_obj (e := e) (w := w) (w' := { w with heap := w.heap.push (.cells q e) }) (spare := #[]) (fz := (0, 0)) hf hout hfl (by simp) (fun i _ => by simp)
                  simpa using this
              · cases h
            · cases h
          · cases h
        · cases h
      · cases h
    · cases h
  case makeMap mt r =>
    cases r with
    | none =>
      simp only at h
      injection h with h
      injection h with h1 h2
      subst h1 h2
      exact ⟨0, .map #[] 0, .map (some w.heap.size), { w with heap := w.heap.push (.map #[] 0) }, by simp [execOp, Instr.makeMap], rfl, ⟨rfl, rfl, rfl⟩, .map id _ (Em.loc_add E id _), ⟨_, #[], Em.loc_add E id _, by simp, trivial⟩⟩
    | some x =>
      simp only at h
      split at h
      · rename_i ti ht
        split at h
        · rename_i k e n hu' hn
          have hu := hT.run_und ht w
          rw [hu'] at hu
          injection h with h
          injection h with h1 h2
          subst h1 h2
          obtain ⟨kk, hx⟩ := natA_inv hn (hρ x (by simp [Op.operands]))
          exact ⟨0, .map #[] 0, .map (some w.heap.size), { w with heap := w.heap.push (.map #[] 0) }, by simp [execOp, Instr.makeMap, hu, hx, asInt, asIntOf], rfl, ⟨rfl, rfl, rfl⟩, .map id _ (Em.loc_add E id _), ⟨_, #[], Em.loc_add E id _, by simp, trivial⟩⟩
        · cases h
      · cases h
  case makeSlice st l c =>
    split at h
    · rename_i ti ht
      split at h
      · rename_i e hu'
        have hu := hT.run_und ht w
        rw [hu'] at hu
        split at h
        · rename_i te hte
          split at h
          · rename_i ln cn zc hl hc hzc
            split at h
            · rename_i h1 h2 h3
              injection h with h
              injection h with e1 e2
              subst e1 e2
              have h1 := Nat.le_of_ble_eq_true h1
              have h2 := Nat.le_of_ble_eq_true h2
              have h3 := Nat.le_of_ble_eq_true h3
              obtain ⟨z, hz, hr, hzl, hfl⟩ := zcells_spec (E := E) hzc
              have hzr := hT.run_zero hte hz
              have hbase := reps_rv hr _ hzl cn
              obtain ⟨k1, hx1⟩ := natA_inv hl (hρ l (by simp [Op.operands]))
              obtain ⟨k2, hx2⟩ := natA_inv hc (hρ c (by simp [Op.operands]))
              have w1 : IntKind.i64.wrap (ln : Int) = ln := IntWalk.i64_in _ (by omega)
              have w2 : IntKind.i64.wrap (cn : Int) = cn := IntWalk.i64_in _ (by omega)
              have hb : ¬ ((te.i.bytes : Int) * (cn : Int) > 2 ^ 48) := by
                have : ((te.i.bytes * cn : Nat) : Int) ≤ 1000000000 := by omega
                rw [Int.natCast_mul] at this
                have e : (2 : Int) ^ 48 = 281474976710656 := by decide
                omega
              have hms : (Instr.makeSlice st (ρ l) (ρ c)).run P w = .ok (.slice (some ⟨w.heap.size, 0, none⟩) ln cn) { w with heap := w.heap.push (.cells ((Array.range (cn * te.i.size)).map (z.cells[· % z.cells.size]!)) e) } := by
                simp only [Instr.makeSlice, Sem.run_bind, hu, Result.andThen_ok, hx1, hx2, asInt, asIntOf, Sem.run_pure, hT.run_info hte, w1, w2]
                rw [if_neg (by simp only [Bool.or_eq_true, decide_eq_true_eq]; omega)]
                simp only [Sem.run_bind, Sem.run_pure, Result.andThen_ok, run_askRoom, hT.run_size hte, Int.toNat_natCast]
                by_cases h0 : cn * te.i.size = 0
                · rw [if_pos h0]
                  simp only [Sem.run_bind, Sem.run_pure, Result.andThen_ok, h0, Array.range_zero', Array.map_empty, newRow, run_newObj]
                · rw [if_neg h0]
                  simp only [Sem.run_bind, Sem.run_pure, Result.andThen_ok, hzr, newRow, run_newObj]
              refine ⟨((Array.range (cn * te.i.size)).map (z.cells[· % z.cells.size]!)).size, .cells ((Array.range (cn * te.i.size)).map (z.cells[· % z.cells.size]!)) e, .slice (some ⟨w.heap.size, 0, none⟩) ln cn,
                { w with heap := w.heap.push (.cells ((Array.range (cn * te.i.size)).map (z.cells[· % z.cells.size]!)) e) }, by simp only [execOp, Sem.run_bind, hms, Result.andThen_ok, Sem.run_pure], rfl, ⟨rfl, rfl, rfl⟩,
                .sl _ _ _ _ _ _ _ _ (Em.loc_add E id _) (fun k hk => Option.some.inj hk) h1 (by simp) (.inl rfl), ?_⟩
              have hfl' : (reps zc cn).all AV.flat = true := by
                have : ∀ n, (reps zc n).all AV.flat = true := fun n => by
                  induction n with
                  | zero => rfl
                  | succ n ih => rw [reps_succ, List.all_append, hfl, ih]; rfl
                exact this cn
              have := newRow_obj (e := e) (w := w) (w' := { w with heap := w.heap.push (.cells ((Array.range (cn * te.i.size)).map (z.cells[· % z.cells.size]!)) e) }) (spare := #[]) (fz := (0, 0)) hf hbase hfl' (by simp) (fun i _ => by simp)
              simpa using this
            · cases h
          · cases h
        · cases h
      · cases h
    · cases h
  case convert s d x =>
    have hx := hρ x (by simp [Op.operands])
    split at h
    · rename_i ts td l hts htd hxx
      rw [hxx] at hx
      split at h
      · rename_i e hu'
        split at h
        · rename_i h8
          injection h with h
          injection h with e1 e2
          subst e1 e2
          obtain ⟨q, hq, hxe⟩ := hx.str_inv
          have hu1 := hT.run_und hts
          have hu2 := hT.run_und htd
          rw [hu'] at hu2
          have hu3 := run_underlying (isU8_und hT h8)
          have hlen : l.length = q.size := by rw [← hq]; simp
          generalize hcap : (Question.appendCap q.size 0 e).cut (w.tape w.drawn (.appendCap q.size 0 e)) = cap
          have hge : q.size ≤ cap := by rw [← hcap]; simp [Question.cut]
          generalize hus : q.data.map (fun b => Value.int .u8 b.toNat) = us
          generalize hsp : Array.replicate (cap - q.size) (Value.int .u8 0) = spare
          have hsz : us.size = q.size := by rw [← hus]; simp
          have htot : (us ++ spare).size = cap := by rw [Array.size_append, hsz, ← hsp]; simp; omega
          have hrv : RVs E (l.map fun n => AV.int .u8 (.ofNat n)) us.toList := by
            rw [← hus, ← hq, Array.toList_map, List.map_map]
            exact RVs.map _ _ _ fun b _ => .int _ _
          have hconv : (convert s d (ρ x)).run P w = .ok (.slice (some ⟨w.heap.size, 0, none⟩) q.size cap) { w with drawn := w.drawn + 1, heap := w.heap.push (.cells (us ++ spare) e (cap, cap + 1)) } := by
            have hsh : ({ w with drawn := w.drawn + 1, heap := w.heap.push (.cells (us ++ spare) e) } : World).shape? w.heap.size = some (e, cap) := by
              simp [World.shape?, ← htot]
            have hfr : ({ w with drawn := w.drawn + 1, heap := w.heap.push (.cells (us ++ spare) e) } : World).freeze { block := w.heap.size, off := cap } 1 = { w with drawn := w.drawn + 1, heap := w.heap.push (.cells (us ++ spare) e (cap, cap + 1)) } := by
              simp only [World.freeze]
              rw [if_neg (by omega)]
              congr 1
              apply Array.ext_getElem?
              intro i
              rw [Array.getElem?_modify, Array.getElem?_push, Array.getElem?_push]
              by_cases hi : i = w.heap.size
              · subst hi; simp
              · rw [if_neg (Ne.symm hi), if_neg hi, if_neg hi]
            simp only [convert, Sem.run_bind, hu1, hu2, Result.andThen_ok, hxe, hu3, Conv.stringToBytes, run_choose]
            rw [if_neg (by simp [Question.forced])]
            simp only [Result.andThen_ok, hcap, hus, hsp, newRow, Sem.run_bind, run_newObj, Sem.run_pure, markStringish, run_shape, hsh, run_freeze, hfr]
          refine ⟨cap, .cells (us ++ spare) e (cap, cap + 1), .slice (some ⟨w.heap.size, 0, none⟩) l.length cap, { w with drawn := w.drawn + 1, heap := w.heap.push (.cells (us ++ spare) e (cap, cap + 1)) }, by simp only [execOp, Sem.run_bind, hconv, Result.andThen_ok, Sem.run_pure, hlen], rfl, ⟨rfl, rfl, rfl⟩,
            .sl _ _ _ _ _ _ _ _ (Em.loc_add E id _) (fun k hk => by cases hk) (by omega) (by simp) (.inl rfl), ?_⟩
          have := newRow_obj (e := e) (w := w) (w' := { w with drawn := w.drawn + 1, heap := w.heap.push (.cells (us ++ spare) e (cap, cap + 1)) }) (spare := spare) (fz := (cap, cap + 1)) hf hrv (by simp [AV.flat]) (by simp) (fun i hi => by simp; omega)
          rw [htot] at this
          exact this
        · cases h
      · cases h
    · cases h
end Go.Ev
namespace Go.Ev
set_option linter.unusedVariables false
set_option linter.unusedSimpArgs false

/-! Operations that write. -/
noncomputable def storeA (ti : TI) (m : Tr AObj) (x y : AV) : Option (Tr AObj) :=
  match x with
  | .ptr b off => (match m.get b with
    | some (.cells c false) => (match Nat.beq y.cells.length ti.i.size, y.cells.all AV.flat, hasA m b off ti.i.size with
      | true, true, true => some (m.set b (some (.cells (c.sets off y.cells) false)))
      | _, _, _ => none)
    | _ => none)
  | _ => none

/-- Cells of a block written: the heap behind it. -/
theorem write_cells {E : Em} {P : Program} {m : Tr AObj} {w : World} {b off : Nat} {c : Tr AV} {l : Loc} {vs : List AV} {us : List Value} (hm : RH E m.get w) (hb : m.get b = some (.cells c false)) (hl : E.loc b = some l) (hr : RVs E vs us) (hf : vs.all AV.flat = true) (hext : off + vs.length ≤ l.ext) :
    ∃ w', (storeCells ⟨l.blk, l.base + off, none⟩ us).run P w = .ok () w' ∧ RH E (m.set b (some (.cells (c.sets off vs) false))).get w' ∧ Gone E m.get w E (m.set b (some (.cells (c.sets off vs) false))).get w' := by
  obtain ⟨l', ca, e, fz, h1, h2, h3, h4, h5⟩ := hm.obj b _ hb
  rw [hl] at h1
  injection h1 with h1
  subst h1
  have hlen := hr.length
  have hone : ∀ v ∈ us, v.oneCell' = true := by
    have : ∀ {vs : List AV} {us : List Value}, RVs E vs us → vs.all AV.flat = true → ∀ v ∈ us, v.oneCell' = true := by
      intro vs us h
      induction vs generalizing us with
      | nil => intro _ v hv; cases h; cases hv
      | cons x vs ih =>
        intro hf v hv
        cases h with
        | cons _ y _ us ha hb =>
          simp only [List.all_cons, Bool.and_eq_true] at hf
          rcases List.mem_cons.1 hv with rfl | hv
          · exact ha.one hf.1
          · exact ih hb hf.2 v hv
    exact this hr hf
  obtain ⟨ca', w', k1, k2, k3, k4, k5, k6, k7, k8, k9⟩ := run_storeCells' P l.blk (l.base + off) e fz us 0 ca w h2 (by omega) (h4 rfl) hone
  have hget : ∀ i p, (m.set b (some (.cells (c.sets off vs) false))).get i = some p → (i = b ∧ p = .cells (c.sets off vs) false) ∨ (i ≠ b ∧ m.get i = some p) := by
    intro i p hp
    rw [get_set] at hp
    split at hp
    · injection hp with hp; rename_i e; exact .inl ⟨e, hp.symm⟩
    · rename_i e; exact .inr ⟨e, hp⟩
  have ho : RObj E w' b (.cells (c.sets off vs) false) := by
    refine ⟨l, ca', e, fz, hl, k2, by omega, by rw [k3]; exact h4, ?_⟩
    intro i v hv
    rw [get_sets] at hv
    split at hv
    · rename_i hi
      obtain ⟨u, hu, hru⟩ := hr.at _ v hv
      refine ⟨by omega, List.all_eq_true.1 hf v (List.mem_of_getElem? hv), u, ?_, hru⟩
      rw [k4, if_pos (by omega), show l.base + i - (l.base + off + 0) = i - off by omega]
      exact hu
    · rename_i hi
      obtain ⟨q1, q2, u, q3, q4⟩ := h5 i v hv
      refine ⟨q1, q2, u, ?_, q4⟩
      rw [k4, if_neg (by omega)]
      exact q3
  exact ⟨w', k1, RH.write hm E.le_refl hb hl k5 hget (fun q hq => by rw [hl] at hq; injection hq with hq; rw [hq]) ho,
    Gone.write hm E.le_refl hb rfl hl k5 hget (fun q hq => by rw [hl] at hq; injection hq with hq; rw [hq]) k6 k7 k8 k9⟩

theorem storeA_sound {E : Em} {P : Program} {T : Tr TI} {t : TypeId} {ti : TI} {m m' : Tr AObj} {w : World} {x y : AV} {a b : Value} (hT : Tys P T) (ht : T.get t = some ti) (hm : RH E m.get w) (h : storeA ti m x y = some m') (hx : RV E x a) (hy : RV E y b) :
    ∃ w', (Instr.storeAt t a b).run P w = .ok () w' ∧ RH E m'.get w' ∧ Gone E m.get w E m'.get w' := by
  unfold storeA at h
  split at h
  · rename_i bb off
    obtain ⟨l, hl, rfl⟩ := hx.ptr_inv
    split at h
    · rename_i c hb
      split at h
      · rename_i h1 h2 h3
        injection h with h
        subst h
        have h1 := Nat.eq_of_beq_eq_true h1
        have hr := hy.cells h2
        have hext := hasA_sound hm h3 hl
        obtain ⟨w', k1, k2, k3⟩ := write_cells (P := P) (off := off) hm hb hl hr h2 (by omega)
        refine ⟨w', ?_, k2, k3⟩
        have hsz : b.cells.size = ti.i.size := by
          have := hr.length
          simp only [Array.length_toList] at this
          omega
        simp [Instr.storeAt, Instr.sureAddr, storeVar, hT.run_size ht, hsz, k1]
      · cases h
    · cases h
  · cases h

/-! append. -/
section append
variable {P : Program} {w : World} {t ty e : TypeId} {i : TypeInfo} {z : Value} {n : Nat} {us : List Value}

theorem run_append_fit (ht : P.underlying t = some (.slice e)) (hi : P.info? e = some i) {xa : Option Addr} {xc : Nat} (happ : (Builtin.firstCells i.size n (.slice xa n xc)).run P w = .ok us.toArray w) (a : Addr) (sLen sCap : Nat) (hfit : sLen + n ≤ sCap)
    {w' : World} (hst : (storeCells (a.add (sLen * i.size)) us).run P w = .ok () w') :
    (Builtin.append_ #[t, t] ty #[.slice (some a) sLen sCap, .slice xa n xc]).run P w = .ok (.slice (some a) (sLen + n) sCap) w' := by
  simp [Builtin.append_, run_underlying ht, sizeOf, typeInfo, hi, Builtin.lenOf, hfit, happ, hst]

theorem run_append_none (ht : P.underlying t = some (.slice e)) (hi : P.info? e = some i) {xa : Option Addr} {xc : Nat} (happ : (Builtin.firstCells i.size 0 (.slice xa 0 xc)).run P w = .ok us.toArray w) :
    (Builtin.append_ #[t, t] ty #[.slice none 0 0, .slice xa 0 xc]).run P w = .ok (.slice none 0 0) w := by
  simp [Builtin.append_, run_underlying ht, sizeOf, typeInfo, hi, Builtin.lenOf, happ]
end append

noncomputable def newsA (m : Tr AObj) (size : Nat) (x : AV) : Option (List AV × Nat) :=
  match x with
  | .nils => some ([], 0)
  | .sl b off n _ _ => (match m.get b with
    | some (.cells c _) => (match c.gets (n * size) off with
      | some vs => some (vs, n)
      | none => none)
    | _ => none)
  | _ => none

noncomputable def appendA (m : Tr AObj) (nx size bytes : Nat) (s : AV) (news : List AV) (n : Nat) : Option (AV × Tr AObj × Nat) :=
  match n, s with
  | 0, .nils => some (.nils, m, nx)
  | 0, .sl b off len cap z => some (.sl b off len cap z, m, nx)
  | n + 1, .nils => (match Nat.ble ((n + 1) * bytes) 1000000000, Nat.ble n 1000000000 with
    | true, true => some (.sl nx 0 (n + 1) none size, m.set nx (some (.cells (Tr.e.sets 0 news) false)), nx + 1)
    | _, _ => none)
  | n + 1, .sl b off len cap z => (match Nat.beq z size, Nat.ble ((len + (n + 1)) * bytes) 1000000000, Nat.ble (len + n) 1000000000, m.get b with
    | true, true, true, some (.cells c ro) => (match cap with
      | some k => (match Nat.ble (len + (n + 1)) k with
        | true => (match ro with
          | false => some (.sl b off (len + (n + 1)) (some k) z, m.set b (some (.cells (c.sets (off + len * z) news) false)), nx)
          | true => none)
        | false => (match c.gets (len * z) off with
          | some old => some (.sl nx 0 (len + (n + 1)) none z, m.set nx (some (.cells (Tr.e.sets 0 (old ++ news)) false)), nx + 1)
          | none => none))
      | none => (match ro, c.gets (len * z) off with
        | false, some old => some (.sl nx 0 (len + (n + 1)) none z, (m.set b none).set nx (some (.cells (Tr.e.sets 0 (old ++ news)) false)), nx + 1)
        | _, _ => none))
    | _, _, _, _ => none)
  | _, _ => none

/-- What an effect comes to. -/
def Eff (E : Em) (m : Tr AObj) (nx : Nat) (w : World) (v : AV) (m' : Tr AObj) (nx' : Nat) (v' : Value) (w' : World) : Prop :=
  ∃ E', E'.fresh nx' ∧ nx ≤ nx' ∧ (∀ b, b < nx → E'.loc b = E.loc b) ∧ RH E' m'.get w' ∧ Gone E m.get w E' m'.get w' ∧ RV E' v v'

theorem RVs.flatAll {E : Em} {vs : List AV} {us : List Value} (h : RVs E vs us) (hf : vs.all AV.flat = true) : ∀ v ∈ us, v.oneCell' = true := by
  induction vs generalizing us with
  | nil => intro v hv; cases h; cases hv
  | cons x vs ih =>
    intro v hv
    cases h with
    | cons _ y _ us ha hb =>
      simp only [List.all_cons, Bool.and_eq_true] at hf
      rcases List.mem_cons.1 hv with rfl | hv
      · exact ha.one hf.1
      · exact ih hb hf.2 v hv

/-- The block that has grown. -/
theorem grown_block {E : Em} {m : Tr AObj} {nx : Nat} {w w' : World} {all : List AV} {us : List Value} {spare : Array Value} {e : TypeId} {len z : Nat} (hfr : E.fresh nx) (hm : RH E m.get w) (hall : RVs E all us) (hf : all.all AV.flat = true) (hlen : all.length = len * z)
    (hw : w'.heap = w.heap.push (.cells (us.toArray ++ spare) e)) (hs : Same w w') (c : Nat) (hc : len ≤ c) (hcz : c * z ≤ (us.toArray ++ spare).size) :
    Eff E m nx w (.sl nx 0 len none z) (m.set nx (some (.cells (Tr.e.sets 0 all) false))) (nx + 1) (.slice (some ⟨w.heap.size, 0, none⟩) len c) w' := by
  have hf0 : E.loc nx = none := (hfr nx (Nat.le_refl _)).1
  have hob := newRow_obj (e := e) (w := w) (w' := w') (us := us.toArray) (spare := spare) (fz := (0, 0)) hf0 (by simpa using hall) hf (by rw [hw]; simp) (fun i _ => by simp)
  have hget : (m.set nx (some (.cells (Tr.e.sets 0 all) false))).get = fun b => if b = nx then some (.cells (Tr.e.sets 0 all) false) else m.get b := funext fun b => get_set _ _ _ _
  refine ⟨E.add nx ⟨w.heap.size, 0, (us.toArray ++ spare).size⟩, Em.fresh_add hfr, Nat.le_succ _, fun b hb => if_neg (by omega), ?_, ?_, ?_⟩
  · rw [hget]; exact RH.alloc hm hf0 hw hob
  · rw [hget]; exact Gone.alloc hm hf0 hw hs.1 hs.2.1 hs.2.2
  · exact .sl _ _ _ _ _ _ _ _ (Em.loc_add E nx _) (fun k hk => by cases hk) hc (by simpa using hcz) (.inl rfl)

theorem newsA_sound {E : Em} {P : Program} {m : Tr AObj} {w : World} {size : Nat} {x : AV} {a : Value} {news : List AV} {n : Nat} (hm : RH E m.get w) (h : newsA m size x = some (news, n)) (hx : RV E x a) :
    ∃ xa xc us, a = .slice xa n xc ∧ RVs E news us ∧ news.all AV.flat = true ∧ news.length = n * size ∧ (∀ w', w'.heap = w.heap → (Builtin.firstCells size n (.slice xa n xc)).run P w' = .ok us.toArray w') ∧
      (n = 0 ∨ ∃ b, xa = some b ∧ ∀ j v, us[j]? = some v → w.cell? (b.add j) = some v) := by
  unfold newsA at h
  split at h
  · injection h with h
    injection h with h1 h2
    subst h1 h2
    exact ⟨none, 0, [], hx.nils_inv, .nil, rfl, by simp, fun w' _ => by simp [Builtin.firstCells], .inl rfl⟩
  · rename_i b off n' cap z
    obtain ⟨l, ad, c, k1, k2, k3, k4, k5, rfl⟩ := hx.sl_inv
    split at h
    · rename_i cc ro hb
      split at h
      · rename_i vs hg
        injection h with h
        injection h with h1 h2
        subst h1 h2
        obtain ⟨hf, us, hlen, hrv, hcell⟩ := hm.cells hb hg k1
        have hvl := (gets_spec _ _ _ _ hg).1
        have hcells : n' = 0 ∨ ∀ j v, us[j]? = some v → w.cell? (ad.add j) = some v := by
          rcases k5 with rfl | hc0
          · refine .inr fun j v hv => ?_
            have hj : j < n' * size := by
              have := (List.getElem?_eq_some_iff.1 hv).1
              omega
            have := hcell j hj
            rw [Addr.add_lit, Nat.add_assoc, this, hv]
          · exact .inl (by omega)
        refine ⟨some ad, c, us, rfl, hrv, hf, hvl, fun w' hw' => ?_, hcells.imp id fun h => ⟨ad, rfl, h⟩⟩
        rcases hcells with h0 | hc
        · subst h0
          have : us = [] := List.eq_nil_of_length_eq_zero (by simpa using hlen)
          subst this
          simp [Builtin.firstCells, loadCells, loadCellsFrom]
        · refine run_firstCells_some w' size n' ad n' c us hlen fun j v hv => ?_
          rw [show w'.cell? (ad.add j) = w.cell? (ad.add j) by simp only [World.cell?, hw']]
          exact hc j v hv
      · cases h
    · cases h
  · cases h

theorem grownCap_ge' (w : World) (need old : Nat) (e : TypeId) : need ≤ grownCap w need old e := by simp [grownCap, Question.cut]
theorem size_grown (us : List Value) (z : Array Value) (n c size : Nat) (hu : us.length = n * size) (hz : z.size = size) (hc : n ≤ c) : c * size ≤ (us.toArray ++ Builtin.zeroCells z (c - n)).size := by
  simp only [Array.size_append, List.size_toArray, hu, Builtin.zeroCells, Array.size_map, Array.size_range, hz, ← Nat.add_mul]
  rw [Nat.add_sub_cancel' hc]
  exact Nat.le_refl _

theorem appendA_sound {E : Em} {P : Program} {T : Tr TI} {t ty e : TypeId} {te : TI} {zv : Value} {m m' : Tr AObj} {nx nx' : Nat} {w : World} {s x v : AV} {a b : Value} {news : List AV} {n : Nat} (hT : Tys P T) (ht : P.underlying t = some (.slice e)) (hte : T.get e = some te) (hz : te.i.zero = some zv) (hzs : zv.cells.size = te.i.size)
    (hm : RH E m.get w) (hfr : E.fresh nx) (hn : newsA m te.i.size x = some (news, n)) (h : appendA m nx te.i.size te.i.bytes s news n = some (v, m', nx')) (hs : RV E s a) (hx : RV E x b) :
    ∃ v' w', (Builtin.append_ #[t, t] ty #[a, b]).run P w = .ok v' w' ∧ Eff E m nx w v m' nx' v' w' := by
  have hi := (hT e te hte).1
  obtain ⟨xa, xc, us, rfl, hrv, hf, hnl, happ, hcells⟩ := newsA_sound (P := P) hm hn hx
  have hul : us.length = n * te.i.size := by rw [← hrv.length, hnl]
  unfold appendA at h
  split at h
  · injection h with h
    injection h with h1 h2
    injection h2 with h2 h3
    subst h1 h2 h3
    obtain rfl := hs.nils_inv
    exact ⟨_, w, run_append_none ht hi (happ w rfl), E, hfr, Nat.le_refl _, fun _ _ => rfl, hm, Gone.refl _ _ _, .nils⟩
  · rename_i bb off len cap z
    injection h with h
    injection h with h1 h2
    injection h2 with h2 h3
    subst h1 h2 h3
    obtain ⟨l, ad, c, k1, k2, k3, k4, k5, rfl⟩ := hs.sl_inv
    have hus : us = [] := List.eq_nil_of_length_eq_zero (by simpa using hul)
    subst hus
    exact ⟨_, w, run_append_fit ht hi (happ w rfl) ad len c (by omega) (by simp [storeCells]), E, hfr, Nat.le_refl _, fun _ _ => rfl, hm, Gone.refl _ _ _, hs⟩
  · rename_i n
    replace hul : us.length = (n + 1) * te.i.size := hul
    replace hnl : news.length = (n + 1) * te.i.size := hnl
    split at h
    · rename_i hb1 hb2
      have hb1 := Nat.le_of_ble_eq_true hb1
      have hb2 := Nat.le_of_ble_eq_true hb2
      injection h with h
      injection h with h1 h2
      injection h2 with h2 h3
      subst h1 h2 h3
      obtain rfl := hs.nils_inv
      obtain ⟨ba, rfl, hc⟩ := hcells.resolve_left (by omega)
      have hr := run_append_nil (P := P) w t ty e te.i zv ht hi hz ba (n + 1) xc us hul hc (by omega) (by omega) (by omega)
      refine ⟨_, _, hr, ?_⟩
      have hg := grownCap_ge' w (n + 1) 0 e
      exact grown_block (w' := w.drew.alloc (.cells (us.toArray ++ Builtin.zeroCells zv.cells (grownCap w (n + 1) 0 e - (n + 1))) e)) (spare := Builtin.zeroCells zv.cells (grownCap w (n + 1) 0 e - (n + 1))) (e := e) hfr hm hrv hf hnl rfl ⟨rfl, rfl, rfl⟩ _ hg (size_grown us zv.cells (n + 1) _ _ hul hzs hg)
    · cases h
  · rename_i n bb off len cap z
    replace hul : us.length = (n + 1) * te.i.size := hul
    replace hnl : news.length = (n + 1) * te.i.size := hnl
    split at h
    · rename_i cc ro hzz hb1 hb2 hbb
      have hzz := Nat.eq_of_beq_eq_true hzz
      have hb1 := Nat.le_of_ble_eq_true hb1
      have hb2 := Nat.le_of_ble_eq_true hb2
      subst hzz
      obtain ⟨l, ad, c, k1, k2, k3, k4, k5, rfl⟩ := hs.sl_inv
      obtain ⟨ba, rfl, hc⟩ := hcells.resolve_left (by omega)
      -- the growing way
      have grow : ∀ old, cc.gets (len * te.i.size) off = some old → c < len + (n + 1) → ∃ v' w', (Builtin.append_ #[t, t] ty #[.slice (some ad) len c, .slice (some ba) (n + 1) xc]).run P w = .ok v' w' ∧
          Eff E m nx w (.sl nx 0 (len + (n + 1)) none te.i.size) (m.set nx (some (.cells (Tr.e.sets 0 (old ++ news)) false))) (nx + 1) v' w' := by
        intro old hold hlt
        obtain ⟨hof, ous, holen, horv, hocell⟩ := hm.cells hbb hold k1
        have hovl := (gets_spec _ _ _ _ hold).1
        have hoc : ∀ j v, ous[j]? = some v → w.cell? (ad.add j) = some v := by
          rcases k5 with rfl | hc0
          · intro j v hv
            have hj : j < len * te.i.size := by
              have := (List.getElem?_eq_some_iff.1 hv).1
              omega
            have := hocell j hj
            rw [Addr.add_lit, Nat.add_assoc, this, hv]
          · have h0 : len = 0 := by omega
            subst h0
            have : ous = [] := List.eq_nil_of_length_eq_zero (by simpa using holen)
            subst this
            intro j v hv; simp at hv
        have hr := run_append_grow (P := P) w t ty e te.i zv ht hi hz ad len c ous holen hoc ba (n + 1) xc us hul hc hlt (by omega) (growslice_fits hlt (by omega))
        refine ⟨_, _, hr, ?_⟩
        have hg := grownCap_ge' w (len + (n + 1)) c e
        have hall : (old ++ news).length = (len + (n + 1)) * te.i.size := by rw [List.length_append, hovl, hnl, ← Nat.add_mul]
        have hul2 : (ous ++ us).length = (len + (n + 1)) * te.i.size := by rw [List.length_append, holen, hul, ← Nat.add_mul]
        refine grown_block (w' := w.drew.alloc (.cells (ous.toArray ++ us.toArray ++ Builtin.zeroCells zv.cells (grownCap w (len + (n + 1)) c e - (len + (n + 1)))) e)) (us := ous ++ us) (spare := Builtin.zeroCells zv.cells (grownCap w (len + (n + 1)) c e - (len + (n + 1)))) (e := e) hfr hm (horv.append hrv) (by rw [List.all_append, hof, hf]; rfl) hall ?_ ⟨rfl, rfl, rfl⟩ _ hg (size_grown (ous ++ us) zv.cells _ _ _ hul2 hzs hg)
        simp only [World.alloc, World.drew, ← Array.append_assoc, List.append_toArray]
      split at h
      · rename_i k
        have hck : c = k := k2 k rfl
        subst hck
        split at h
        · rename_i hle
          have hle := Nat.le_of_ble_eq_true hle
          split at h
          · injection h with h
            injection h with h1 h2
            injection h2 with h2 h3
            subst h1 h2 h3
            have had : ad = ⟨l.blk, l.base + off, none⟩ := by
              rcases k5 with h | h
              · exact h
              · omega
            subst had
            have hext : off + len * te.i.size + news.length ≤ l.ext := by
              rw [hnl]
              have : (len + (n + 1)) * te.i.size ≤ c * te.i.size := Nat.mul_le_mul_right _ hle
              rw [Nat.add_mul] at this
              omega
            obtain ⟨w', q1, q2, q3⟩ := write_cells (P := P) (off := off + len * te.i.size) hm hbb k1 hrv hf hext
            have q1' : (storeCells ((⟨l.blk, l.base + off, none⟩ : Addr).add (len * te.i.size)) us).run P w = .ok () w' := by
              rw [Addr.add_lit, Nat.add_assoc]; exact q1
            exact ⟨_, w', run_append_fit ht hi (happ w rfl) _ len c hle q1', E, hfr, Nat.le_refl _, fun _ _ => rfl, q2, q3, .sl _ _ _ _ _ l _ _ k1 k2 hle k4 (.inl rfl)⟩
          · cases h
        · rename_i hle
          split at h
          · rename_i old hold
            injection h with h
            injection h with h1 h2
            injection h2 with h2 h3
            subst h1 h2 h3
            exact grow old hold (by
              rcases Nat.lt_or_ge c (len + (n + 1)) with h | h
              · exact h
              · rw [Nat.ble_eq_true_of_le h] at hle; cases hle)
          · cases h
      · split at h
        · rename_i old hold
          injection h with h
          injection h with h1 h2
          injection h2 with h2 h3
          subst h1 h2 h3
          have hsub : ∀ b' o, ((m.set bb none).set nx (some (.cells (Tr.e.sets 0 (old ++ news)) false))).get b' = some o → (m.set nx (some (.cells (Tr.e.sets 0 (old ++ news)) false))).get b' = some o := by
            intro b' o
            rw [get_set, get_set, get_set]
            split
            · exact id
            · split
              · intro h; cases h
              · exact id
          by_cases hlt : c < len + (n + 1)
          · obtain ⟨v', w', q1, E', q2, q3, q7, q4, q5, q6⟩ := grow old hold hlt
            refine ⟨v', w', q1, E', q2, q3, q7, q4.sub hsub, ?_, q6⟩
            exact ⟨q5.le, fun b' o l' hb' => q5.own b' o l' (hsub _ _ hb'), q5.frm, q5.size, q5.os, q5.tape, q5.output⟩
          · have hle : len + (n + 1) ≤ c := by omega
            have had : ad = ⟨l.blk, l.base + off, none⟩ := by
              rcases k5 with h | h
              · exact h
              · omega
            subst had
            obtain ⟨hof, ous, holen, horv, hocell⟩ := hm.cells hbb hold k1
            have hovl := (gets_spec _ _ _ _ hold).1
            obtain ⟨l', ca, e', fz, g1, g2, g3, g4, g5⟩ := hm.obj bb _ hbb
            rw [k1] at g1
            injection g1 with g1
            subst g1
            have hmul : (len + (n + 1)) * te.i.size ≤ c * te.i.size := Nat.mul_le_mul_right _ hle
            rw [Nat.add_mul] at hmul
            obtain ⟨ca', w', r1, r2, r3, r4, r5, r6, r7, r8, r9⟩ := run_storeCells' P l.blk (l.base + off + len * te.i.size) e' fz us 0 ca w g2 (by omega) (g4 rfl) (hrv.flatAll hf)
            have q1' : (storeCells ((⟨l.blk, l.base + off, none⟩ : Addr).add (len * te.i.size)) us).run P w = .ok () w' := by
              rw [Addr.add_lit]; exact r1
            have hf0 : E.loc nx = none := (hfr nx (Nat.le_refl _)).1
            have hle' := Em.le_add (l := ⟨l.blk, l.base + off, l.ext - off⟩) hf0
            have hget : ∀ i p, ((m.set bb none).set nx (some (.cells (Tr.e.sets 0 (old ++ news)) false))).get i = some p → (i = nx ∧ p = .cells (Tr.e.sets 0 (old ++ news)) false) ∨ (i ≠ bb ∧ m.get i = some p) := by
              intro i p hp
              rw [get_set, get_set] at hp
              split at hp
              · injection hp with hp; rename_i e; exact .inl ⟨e, hp.symm⟩
              · split at hp
                · cases hp
                · rename_i e; exact .inr ⟨e, hp⟩
            have hl' : ∀ q, (E.add nx ⟨l.blk, l.base + off, l.ext - off⟩).loc nx = some q → q.blk = l.blk := fun q hq => by
              rw [Em.loc_add] at hq; injection hq with hq; rw [← hq]
            have ho : RObj (E.add nx ⟨l.blk, l.base + off, l.ext - off⟩) w' nx (.cells (Tr.e.sets 0 (old ++ news)) false) := by
              refine ⟨_, ca', e', fz, Em.loc_add E nx _, r2, by simp only; omega, by rw [r3]; exact g4, ?_⟩
              intro i v hv
              rw [get_sets, get_e] at hv
              split at hv
              · rename_i hi'
                rw [Nat.sub_zero] at hv
                simp only [List.length_append, hovl, hnl] at hi'
                refine ⟨by simp only; omega, ?_, ?_⟩
                · have := List.mem_of_getElem? hv
                  rcases List.mem_append.1 this with h | h
                  · exact List.all_eq_true.1 hof v h
                  · exact List.all_eq_true.1 hf v h
                · by_cases hi2 : i < len * te.i.size
                  · rw [List.getElem?_append_left (by omega)] at hv
                    obtain ⟨u, hu, hru⟩ := horv.at i v hv
                    refine ⟨u, ?_, hru.mono hle'⟩
                    have hcell := hocell i hi2
                    rw [hu] at hcell
                    simp only [World.cell?, g2] at hcell
                    simp only at hcell ⊢
                    rw [r4, if_neg (by omega), Nat.add_assoc]
                    simpa using hcell
                  · rw [List.getElem?_append_right (by omega), hovl] at hv
                    obtain ⟨u, hu, hru⟩ := hrv.at _ v hv
                    refine ⟨u, ?_, hru.mono hle'⟩
                    simp only
                    rw [r4, if_pos (by omega), show l.base + off + i - (l.base + off + len * te.i.size + 0) = i - len * te.i.size by omega]
                    exact hu
              · cases hv
            refine ⟨_, w', run_append_fit ht hi (happ w rfl) _ len c hle q1', _, Em.fresh_add hfr, Nat.le_succ _, fun b hb => if_neg (by omega), RH.write hm hle' hbb k1 r5 hget hl' ho, Gone.write hm hle' hbb rfl k1 r5 hget hl' r6 r7 r8 r9, ?_⟩
            refine .sl _ _ _ _ _ _ _ _ (Em.loc_add E nx _) (fun k hk => by cases hk) hle (by simp only; omega) (.inl (by simp))
        · cases h
    · cases h
  · cases h
end Go.Ev
namespace Go.Ev
set_option linter.unusedVariables false
set_option linter.unusedSimpArgs false

theorem keqA_same {E : Em} {kd : Nat} {x y : AV} {a b : Value} (h : keqA kd x y = some true) (hx : RV E x a) (hy : RV E y b) : Instr.sameBits 10000 b a = true := by
  unfold keqA at h
  split at h
  · split at h
    · rename_i hk
      injection h with h
      rw [eqI_eq] at h
      obtain rfl := hx.int_inv
      obtain rfl := hy.int_inv
      obtain rfl := ik_inj hk
      simp only [beq_iff_eq] at h
      subst h
      simp [Instr.sameBits]
    · cases h
  · injection h with h
    obtain ⟨q, hq, rfl⟩ := hx.str_inv
    obtain ⟨q', hq', rfl⟩ := hy.str_inv
    rw [eqL_eq, ← hq, ← hq', ← str_eq] at h
    have e : (q' == q) = true := by
      have e : (q' == q) = (q'.data == q.data) := by cases q; cases q'; rfl
      rw [beq_iff_eq, Lib.toList_data, Lib.toList_data, Array.toList_inj] at h
      rw [e, beq_iff_eq]; exact h.symm
    simp [Instr.sameBits, e]
  · split at h
    · rename_i h1 h2
      injection h with h
      rw [Bool.and_eq_true, eqI_eq, eqI_eq, beq_iff_eq, beq_iff_eq] at h
      obtain rfl := two_inv hx
      obtain rfl := two_inv hy
      obtain rfl := ik_inj h1
      obtain rfl := ik_inj h2
      obtain ⟨rfl, rfl⟩ := h
      simp [Instr.sameBits]
    · cases h
  · cases h

theorem findA_at {E : Em} {kd : Nat} {k : AV} {kv : Value} (hkv : RV E k kv) : ∀ (es : List (AV × AV × Nat)) (xs : List MapEntry) (i j : Nat) (v : AV), findA kd k es i = some (some (j, v)) → REs E es xs →
    i ≤ j ∧ ∃ x, xs[j - i]? = some x ∧ Instr.sameBits 10000 x.key kv = true := by
  intro es
  induction es with
  | nil => intro xs i j v h; simp [findA] at h
  | cons e es ih =>
    intro xs i j v h hr
    obtain ⟨k', v', n⟩ := e
    cases xs with
    | nil => exact hr.elim
    | cons x xs =>
      obtain ⟨h1, h2, h3, h4⟩ := hr
      simp only [findA] at h
      split at h
      · rename_i hk
        injection h with h
        injection h with h
        injection h with ha hb
        subst ha
        exact ⟨Nat.le_refl _, x, by simp, keqA_same hk hkv h1⟩
      · obtain ⟨p, y, q, r⟩ := ih xs (i + 1) j v h h4
        refine ⟨by omega, y, ?_, r⟩
        rw [show j - i = (j - (i + 1)) + 1 by omega]
        simpa using q
      · cases h

noncomputable def putA (k v : AV) : List (AV × AV × Nat) → Nat → List (AV × AV × Nat)
  | [], _ => []
  | (a, b, n) :: es, i => match i with
    | 0 => (k, v, n) :: es
    | i + 1 => (a, b, n) :: putA k v es i

theorem putA_res {E : Em} {k v : AV} {kv vv : Value} (hk : RV E k kv) (hv : RV E v vv) : ∀ (es : List (AV × AV × Nat)) (xs : List MapEntry) (i : Nat), REs E es xs → REs E (putA k v es i) (xs.modify i fun e => { e with key := kv, val := vv }) := by
  intro es
  induction es with
  | nil => intro xs i h; cases xs with
    | nil => cases i <;> simp [putA, REs]
    | cons => exact h.elim
  | cons e es ih =>
    intro xs i h
    obtain ⟨a, b, n⟩ := e
    cases xs with
    | nil => exact h.elim
    | cons x xs =>
      obtain ⟨h1, h2, h3, h4⟩ := h
      cases i with
      | zero => simp only [putA, List.modify_zero_cons]; exact ⟨hk, hv, h3, h4⟩
      | succ i => simp only [putA, List.modify_succ_cons]; exact ⟨h1, h2, h3, ih xs i h4⟩

theorem REs.push {E : Em} {k v : AV} {n : Nat} {x : MapEntry} (hk : RV E k x.key) (hv : RV E v x.val) (hn : x.born = n) : ∀ (es : List (AV × AV × Nat)) (xs : List MapEntry), REs E es xs → REs E (es ++ [(k, v, n)]) (xs ++ [x])
  | [], [], _ => ⟨hk, hv, hn, trivial⟩
  | (_, _, _) :: es, _ :: xs, ⟨a, b, c, d⟩ => ⟨a, b, c, REs.push hk hv hn es xs d⟩
  | [], _ :: _, h => h.elim
  | _ :: _, [], h => h.elim

noncomputable def mapUpdA (T : Tr TI) (m : Tr AObj) (ti : TI) (x k v : AV) : Option (Tr AObj) :=
  match ti.u with
  | .map kt _ => (match T.get kt with
    | some tk => (match kindK T tk.u with
      | some kd => (match keyOk kd k, x with
        | true, .map b => (match m.get b with
          | some (.map es c) => (match findA kd k es 0 with
            | some none => some (m.set b (some (.map (es ++ [(k, v, c)]) (c + 1))))
            | some (some (i, _)) => some (m.set b (some (.map (putA k v es i) c)))
            | none => none)
          | _ => none)
        | _, _ => none)
      | none => none)
    | none => none)
  | _ => none

/-- A map's block written. -/
theorem write_map {E : Em} {m : Tr AObj} {w : World} {b : Nat} {es es' : List (AV × AV × Nat)} {c c' : Nat} {l : Loc} {xs : Array MapEntry} (hm : RH E m.get w) (hb : m.get b = some (.map es c)) (hl : E.loc b = some l) (hr : REs E es' xs.toList) :
    RH E (m.set b (some (.map es' c'))).get { w with heap := w.heap.setIfInBounds l.blk (.map xs c') } ∧ Gone E m.get w E (m.set b (some (.map es' c'))).get { w with heap := w.heap.setIfInBounds l.blk (.map xs c') } := by
  obtain ⟨l', xs0, h1, h2, h3⟩ := hm.obj b _ hb
  rw [hl] at h1
  injection h1 with h1
  subst h1
  have hlt := (Array.getElem?_eq_some_iff.1 h2).1
  have hget : ∀ i p, (m.set b (some (.map es' c'))).get i = some p → (i = b ∧ p = .map es' c') ∨ (i ≠ b ∧ m.get i = some p) := by
    intro i p hp
    rw [get_set] at hp
    split at hp
    · injection hp with hp; rename_i e; exact .inl ⟨e, hp.symm⟩
    · rename_i e; exact .inr ⟨e, hp⟩
  have h5 : ∀ k, k ≠ l.blk → (w.heap.setIfInBounds l.blk (.map xs c'))[k]? = w.heap[k]? := fun k hk => Array.getElem?_setIfInBounds_ne (Ne.symm hk)
  have ho : RObj E { w with heap := w.heap.setIfInBounds l.blk (.map xs c') } b (.map es' c') := ⟨l, xs, hl, by simp [hlt], hr⟩
  exact ⟨RH.write hm E.le_refl hb hl h5 hget (fun q hq => by rw [hl] at hq; injection hq with hq; rw [hq]) ho,
    Gone.write hm E.le_refl hb rfl hl h5 hget (fun q hq => by rw [hl] at hq; injection hq with hq; rw [hq]) (by simp) rfl rfl rfl⟩

theorem mapUpdA_sound {E : Em} {P : Program} {T : Tr TI} {t : TypeId} {ti : TI} {m m' : Tr AObj} {w : World} {x k v : AV} {a kv vv : Value} (hT : Tys P T) (ht : T.get t = some ti) (hm : RH E m.get w) (h : mapUpdA T m ti x k v = some m') (hx : RV E x a) (hkv : RV E k kv) (hv : RV E v vv) :
    ∃ w', (Instr.mapUpdate t a kv vv).run P w = .ok () w' ∧ RH E m'.get w' ∧ Gone E m.get w E m'.get w' := by
  have hu := hT.run_und ht w
  unfold mapUpdA at h
  split at h
  · rename_i kt et hu'
    rw [hu'] at hu
    split at h
    · rename_i tk htk
      split at h
      · rename_i kd hkd
        split at h
        · rename_i b ho
          have hck := checkKey_sound (w := w) (em := false) hT (hT.und htk) hkd ho hkv
          obtain ⟨l, hl, rfl⟩ := hx.map_inv
          split at h
          · rename_i es c hb
            obtain ⟨l', xs, h1, h2, h3⟩ := hm.obj b _ hb
            rw [hl] at h1
            injection h1 with h1
            subst h1
            have hg : (getObj l.blk).run P w = .ok (.map xs c) w := by simp [getObj, Sem.run, h2]
            have hset : ∀ o, (setObj l.blk o).run P w = .ok () { w with heap := w.heap.setIfInBounds l.blk o } := fun o => by simp [setObj, Sem.run, h2]
            split at h
            · rename_i hf
              injection h with h
              subst h
              obtain ⟨q, hq, hfr⟩ := findKey_sound (w := w) hT (hT.und htk) hkd hkv hf h3
              cases q with
              | some _ => exact hfr.elim
              | none =>
                have hr : REs E (es ++ [(k, v, c)]) (xs.push { key := kv, val := vv, born := c }).toList := by
                  rw [Array.toList_push]
                  exact REs.push (x := { key := kv, val := vv, born := c }) hkv hv rfl _ _ h3
                obtain ⟨k1, k2⟩ := write_map (c' := c + 1) hm hb hl hr
                refine ⟨_, ?_, k1, k2⟩
                simp only [Instr.mapUpdate, Sem.run_bind, hu, Result.andThen_ok, hg, Sem.run_pure]
                simp [hck, hq, hset]
            · rename_i i y hf
              injection h with h
              subst h
              obtain ⟨q, hq, hfr⟩ := findKey_sound (w := w) hT (hT.und htk) hkd hkv hf h3
              obtain ⟨_, z, hz, hsame⟩ := findA_at hkv es xs.toList 0 i y hf h3
              cases q with
              | none => exact hfr.elim
              | some q =>
                obtain ⟨j, u⟩ := q
                obtain ⟨rfl, _⟩ := hfr
                have hr : REs E (putA k v es i) (xs.modify i fun e => { e with key := kv, val := vv }).toList := by
                  rw [Array.toList_modify]
                  exact putA_res hkv hv _ _ _ h3
                obtain ⟨k1, k2⟩ := write_map (c' := c) hm hb hl hr
                refine ⟨_, ?_, k1, k2⟩
                have hz' : xs[i]? = some z := by simpa using hz
                have hstay : (Instr.keyThatStays z.key kv).run P w = .ok kv w := by simp [Instr.keyThatStays, hsame]
                simp only [Instr.mapUpdate, Sem.run_bind, hu, Result.andThen_ok, hg, Sem.run_pure]
                simp [hck, hq, hz', hstay, hset]
            · cases h
          · cases h
        · cases h
      · cases h
    · cases h
  · cases h
end Go.Ev
namespace Go.Ev
set_option linter.unusedVariables false
set_option linter.unusedSimpArgs false

theorem wrap_i64 (n : Nat) (h63 : (n : Int) ≤ 9223372036854775807) : IntKind.i64.wrap (n : Int) = n := by
  have h2 : (n : Int) % 18446744073709551616 = n := by omega
  unfold IntKind.wrap
  show (if (true && decide ((n : Int) % (18446744073709551616 : Int) ≥ (9223372036854775808 : Int))) = true then (n : Int) % (18446744073709551616 : Int) - (18446744073709551616 : Int) else (n : Int) % (18446744073709551616 : Int)) = n
  rw [h2, if_neg]
  simp only [Bool.true_and, decide_eq_true_eq]
  omega

theorem run_append_zeros {P : Program} (w : World) (t u ty e : TypeId) (k0 k : IntKind) (i : TypeInfo) (z : Value) (ht : P.underlying t = some (.slice e)) (hu : P.underlying u = some (.int k0)) (hi : P.info? e = some i) (hz : i.zero = some z)
    (n : Nat) (h0 : 0 < n) (hs : i.size ≠ 0) (h63 : (n : Int) ≤ 9223372036854775807) (h48 : n * i.bytes ≤ 281474976710656) :
    (Builtin.append_ #[t, u] ty #[.slice none 0 0, .int k n]).run P w =
      .ok (.slice (some ⟨w.heap.size, 0, none⟩) n (grownCap w n 0 e)) (w.drew.alloc (.cells (Builtin.zeroCells z.cells n ++ Builtin.zeroCells z.cells (grownCap w n 0 e - n)) e)) := by
  have hn : n ≠ 0 := by omega
  have h63' : ¬ (9223372036854775807 < (n : Int)) := by omega
  have h48' : ¬ (281474976710656 < Builtin.nextslicecap n 0 * i.bytes) := by rw [nextslicecap_zero h0]; omega
  have hw := wrap_i64 n h63
  have h4 : ¬ ((281474976710656 : Int) < (n : Int) * (i.bytes : Int)) := by
    have : (n : Int) * (i.bytes : Int) = ((n * i.bytes : Nat) : Int) := by simp
    rw [this]; omega
  have h00 : ¬ ((n : Int) < 0) := by omega
  have hns : n * i.size ≠ 0 := Nat.mul_ne_zero hn hs
  simp [Builtin.append_, run_underlying ht, run_underlying hu, sizeOf, typeInfo, zeroValue, hi, hz, asInt, asIntOf, hw, h00, h4, hn, hs, h63', h48', Question.forced, run_firstCells_none, newRow, grownCap]
  exact fun h => absurd h hns

theorem reps_flat {zc : List AV} (h : zc.all AV.flat = true) : ∀ n, (reps zc n).all AV.flat = true := fun n => by
  induction n with
  | zero => rfl
  | succ n ih => rw [reps_succ, List.all_append, h, ih]; rfl

/-! All operations with an effect, and those that make. -/
noncomputable def eop (G : Nat) (T : Tr TI) (t : Tr AV) (m : Tr AObj) (nx : Nat) (o : Op) : Option (AV × Tr AObj × Nat) :=
  match o with
  | .store xt a x => (match T.get xt with
    | some ti => (match storeA ti m (evo G t a) (evo G t x) with | some m' => some (.tup [], m', nx) | none => none)
    | none => none)
  | .mapUpdate xt a k x => (match T.get xt with
    | some ti => (match mapUpdA T m ti (evo G t a) (evo G t k) (evo G t x) with | some m' => some (.tup [], m', nx) | none => none)
    | none => none)
  | .insert xt a k x => (match T.get xt with
    | some ti => (match mapUpdA T m ti (evo G t a) (evo G t k) (evo G t x) with | some m' => some (.tup [], m', nx) | none => none)
    | none => none)
  | .call ⟨.builtin .append, args, ts⟩ => (match evs G t args.toList, ts.toList with
    | [s, x], [t1, t2] => (match T.get t1, T.get t2 with
      | some ti, some t2i => (match ti.u with
        | .slice e => (match T.get e with
          | some te => (match zcells te with
            | some zc => (match Nat.beq t1 t2 with
              | true => (match newsA m te.i.size x with
                | some (news, n) => appendA m nx te.i.size te.i.bytes s news n
                | none => none)
              | false => (match t2i.u, s, natA x, Nat.beq te.i.size 0 with
                | .int _, .nils, some (n + 1), false => (match Nat.ble ((n + 1) * te.i.bytes) 1000000000, Nat.ble n 1000000000 with
                  | true, true => some (.sl nx 0 (n + 1) none te.i.size, m.set nx (some (.cells (Tr.e.sets 0 (reps zc (n + 1))) false)), nx + 1)
                  | _, _ => none)
                | _, _, _, _ => none))
            | none => none)
          | none => none)
        | _ => none)
      | _, _ => none)
    | _, _ => none)
  | o => (match aop G T t nx o with
    | some (v, ob) => some (v, m.set nx (some ob), nx + 1)
    | none => none)

/-- What an operation of these comes to: a value, or none. -/
def EffN (P : Program) (E : Em) (m : Tr AObj) (nx : Nat) (w : World) (v : AV) (m' : Tr AObj) (nx' : Nat) (s : Sem Next) : Prop :=
  ∃ v' w', (s.run P w = .ok (.value v') w' ∨ (s.run P w = .ok .skip w' ∧ v' = undef)) ∧ Eff E m nx w v m' nx' v' w'

theorem undef_rv (E : Em) : RV E (.tup []) undef := .tup _ _ .nil

theorem MadeA.eff {P : Program} {E : Em} {m : Tr AObj} {nx : Nat} {w : World} {v : AV} {ob : AObj} {s : Sem Next} (hm : RH E m.get w) (hfr : E.fresh nx) (h : MadeA P E w nx v ob s) : EffN P E m nx w v (m.set nx (some ob)) (nx + 1) s := by
  obtain ⟨x, o, v', w', h1, h2, h3, h4, h5⟩ := h
  have hf0 : E.loc nx = none := (hfr nx (Nat.le_refl _)).1
  have hget : (m.set nx (some ob)).get = fun b => if b = nx then some ob else m.get b := funext fun b => get_set _ _ _ _
  refine ⟨v', w', .inl h1, E.add nx ⟨w.heap.size, 0, x⟩, Em.fresh_add hfr, Nat.le_succ _, fun b hb => if_neg (by omega), ?_, ?_, h4⟩
  · rw [hget]; exact RH.alloc hm hf0 h2 h5
  · rw [hget]; exact Gone.alloc hm hf0 h2 h3.1 h3.2.1 h3.2.2

theorem aop_skip {G : Nat} {T : Tr TI} {t : Tr AV} {nx : Nat} {c : Call} : aop G T t nx (.call c) = none := rfl

theorem eop_sound {E : Em} {P : Program} {G : Nat} {T : Tr TI} {t : Tr AV} {m m' : Tr AObj} {nx nx' : Nat} {w : World} {ρ : Operand → Value} {o : Oper} {v : AV} (hT : Tys P T) (hm : RH E m.get w) (hfr : E.fresh nx) (h : eop G T t m nx o.op = some (v, m', nx')) (hρ : ∀ x ∈ o.op.operands, RV E (evo G t x) (ρ x)) :
    EffN P E m nx w v m' nx' (execOp ρ o) := by
  have made : ∀ ob, aop G T t nx o.op = some (v, ob) → m' = m.set nx (some ob) → nx' = nx + 1 → EffN P E m nx w v m' nx' (execOp ρ o) := by
    intro ob ha h1 h2
    subst h1 h2
    exact (aop_sound hT ha (hfr nx (Nat.le_refl _)).1 hρ).eff hm hfr
  have gen : (match aop G T t nx o.op with
    | some (v, ob) => some (v, m.set nx (some ob), nx + 1)
    | none => none) = some (v, m', nx') → EffN P E m nx w v m' nx' (execOp ρ o) := by
    intro h
    split at h
    · rename_i v2 ob ha
      injection h with h
      injection h with h1 h2
      injection h2 with h2 h3
      subst h1
      exact made ob ha h2.symm h3.symm
    · cases h
  obtain ⟨dst, op, ty, pos, after, guard⟩ := o
  simp only at h hρ gen
  cases op <;> simp only [eop] at h <;> try (exact gen h)
  case store xt a x =>
    split at h
    · rename_i ti ht
      split at h
      · rename_i m2 hs
        injection h with h
        injection h with h1 h2
        injection h2 with h2 h3
        subst h1 h2 h3
        obtain ⟨w', k1, k2, k3⟩ := storeA_sound hT ht hm hs (hρ a (by simp [Op.operands])) (hρ x (by simp [Op.operands]))
        exact ⟨undef, w', .inr ⟨by simp [execOp, k1], rfl⟩, E, hfr, Nat.le_refl _, fun _ _ => rfl, k2, k3, undef_rv E⟩
      · cases h
    · cases h
  case mapUpdate xt a k x =>
    split at h
    · rename_i ti ht
      split at h
      · rename_i m2 hs
        injection h with h
        injection h with h1 h2
        injection h2 with h2 h3
        subst h1 h2 h3
        obtain ⟨w', k1, k2, k3⟩ := mapUpdA_sound hT ht hm hs (hρ a (by simp [Op.operands])) (hρ k (by simp [Op.operands])) (hρ x (by simp [Op.operands]))
        exact ⟨undef, w', .inr ⟨by simp [execOp, k1], rfl⟩, E, hfr, Nat.le_refl _, fun _ _ => rfl, k2, k3, undef_rv E⟩
      · cases h
    · cases h
  case insert xt a k x =>
    split at h
    · rename_i ti ht
      split at h
      · rename_i m2 hs
        injection h with h
        injection h with h1 h2
        injection h2 with h2 h3
        subst h1 h2 h3
        obtain ⟨w', k1, k2, k3⟩ := mapUpdA_sound hT ht hm hs (hρ a (by simp [Op.operands])) (hρ k (by simp [Op.operands])) (hρ x (by simp [Op.operands]))
        exact ⟨undef, w', .inr ⟨by simp [execOp, k1], rfl⟩, E, hfr, Nat.le_refl _, fun _ _ => rfl, k2, k3, undef_rv E⟩
      · cases h
    · cases h
  case call c =>
    obtain ⟨callee, args, ts⟩ := c
    cases callee <;> (try simp only at h) <;> try (exact gen h)
    rename_i b
    cases b <;> (try simp only at h) <;> try (exact gen h)
    have hargs : RVs E (evs G t args.toList) (args.map ρ).toList := by
      rw [evs_map, Array.toList_map]
      exact RVs.map _ _ _ fun x hx => hρ x (by simp [Op.operands, Call.operands]; simpa using hx)
    split at h
    · rename_i s x t1 t2 hev hts
      rw [hev] at hargs
      obtain ⟨a, b, hab, ha, hb⟩ := hargs.two_inv
      have hab' : args.map ρ = #[a, b] := by rw [← Array.toList_inj, hab]
      have hts' : ts = #[t1, t2] := by rw [← Array.toList_inj, hts]
      subst hts'
      have hrun : ∀ r w', (Builtin.append_ #[t1, t2] ty #[a, b]).run P w = .ok r w' → (execOp ρ ⟨dst, .call ⟨.builtin .append, args, #[t1, t2]⟩, ty, pos, after, guard⟩).run P w = .ok (.value r) w' := by
        intro r w' hr
        simp [execOp, resolve, invoke, builtin, hab', hr]
      split at h
      · rename_i ti t2i ht1 ht2
        split at h
        · rename_i e hu
          split at h
          · rename_i te hte
            split at h
            · rename_i zc hzc
              obtain ⟨z, hz, hzr, hzl, hzf⟩ := zcells_spec (E := E) hzc
              have hzs : z.cells.size = te.i.size := by
                have := hzr.length
                simp only [Array.length_toList] at this
                omega
              have hund : P.underlying t1 = some (.slice e) := by rw [hT.und ht1, hu]
              split at h
              · rename_i h12
                have h12 := Nat.eq_of_beq_eq_true h12
                subst h12
                split at h
                · rename_i news n hn
                  obtain ⟨v', w', k1, k2⟩ := appendA_sound (ty := ty) hT hund hte hz hzs hm hfr hn h ha hb
                  exact ⟨v', w', .inl (hrun _ _ k1), k2⟩
                · cases h
              · split at h
                · rename_i n hu2 hnat hz0
                  split at h
                  · rename_i hb1 hb2
                    have hb1 := Nat.le_of_ble_eq_true hb1
                    have hb2 := Nat.le_of_ble_eq_true hb2
                    injection h with h
                    injection h with h1 h2
                    injection h2 with h2 h3
                    subst h1 h2 h3
                    obtain rfl := ha.nils_inv
                    obtain ⟨kk, rfl⟩ := natA_inv hnat hb
                    have hs0 : te.i.size ≠ 0 := by
                      intro h0
                      rw [h0] at hz0
                      cases hz0
                    have hr := run_append_zeros (P := P) w t1 t2 ty e _ kk te.i z hund (by rw [hT.und ht2, hu2]) (hT e te hte).1 hz (n + 1) (by omega) hs0 (by omega) (by omega)
                    refine ⟨_, _, .inl (hrun _ _ hr), ?_⟩
                    have hg := grownCap_ge' w (n + 1) 0 e
                    have hrep := reps_rv hzr te.i.size hzl (n + 1)
                    rw [← hzs] at hrep
                    have hrep' : RVs E (reps zc (n + 1)) (Builtin.zeroCells z.cells (n + 1)).toList := hrep
                    have hlen : (Builtin.zeroCells z.cells (n + 1)).toList.length = (n + 1) * te.i.size := by simp [Builtin.zeroCells, hzs]
                    refine grown_block (w' := w.drew.alloc (.cells (Builtin.zeroCells z.cells (n + 1) ++ Builtin.zeroCells z.cells (grownCap w (n + 1) 0 e - (n + 1))) e)) (us := (Builtin.zeroCells z.cells (n + 1)).toList) (spare := Builtin.zeroCells z.cells (grownCap w (n + 1) 0 e - (n + 1))) (e := e) hfr hm hrep' ?_ (hrep'.length.trans hlen) ?_ ⟨rfl, rfl, rfl⟩ _ hg ?_
                    · exact reps_flat hzf (n + 1)
                    · simp only [World.alloc, World.drew, Array.toArray_toList]
                    · have := size_grown (Builtin.zeroCells z.cells (n + 1)).toList z.cells (n + 1) _ te.i.size hlen hzs hg
                      exact this
                  · cases h
                · cases h
            · cases h
          · cases h
        · cases h
      · cases h
    · cases h
end Go.Ev
namespace Go.Ev
set_option linter.unusedVariables false
set_option linter.unusedSimpArgs false

/-! Where the blocks of a later heap come from. -/
def Dom (m m' : Tr AObj) (nx : Nat) : Prop := ∀ b o, m'.get b = some o → m.get b = some o ∨ (o.wr = true ∧ ((∃ o', m.get b = some o' ∧ o'.wr = true) ∨ nx ≤ b))

theorem Dom.refl (m : Tr AObj) (nx : Nat) : Dom m m nx := fun _ _ h => .inl h
theorem Dom.set {m : Tr AObj} {nx b : Nat} {o o' : AObj} (h : m.get b = some o') (hw : o'.wr = true) (hw' : o.wr = true) : Dom m (m.set b (some o)) nx := by
  intro i p hp
  rw [get_set] at hp
  split at hp
  · injection hp with hp; subst hp; rename_i e; subst e; exact .inr ⟨hw', .inl ⟨o', h, hw⟩⟩
  · exact .inl hp
theorem Dom.new {m : Tr AObj} {nx : Nat} {o : AObj} (hw' : o.wr = true) : Dom m (m.set nx (some o)) nx := by
  intro i p hp
  rw [get_set] at hp
  split at hp
  · injection hp with hp; subst hp; rename_i e; subst e; exact .inr ⟨hw', .inr (Nat.le_refl _)⟩
  · exact .inl hp
theorem Dom.cut {m : Tr AObj} {nx b : Nat} : Dom m (m.set b none) nx := by
  intro i p hp
  rw [get_set] at hp
  split at hp
  · cases hp
  · exact .inl hp
theorem Dom.trans {m m' m'' : Tr AObj} {nx nx' : Nat} (h : Dom m m' nx) (k : Dom m' m'' nx') (hn : nx ≤ nx') : Dom m m'' nx := by
  intro b o hb
  rcases k b o hb with h1 | ⟨h1, ⟨o', h2, h3⟩ | h2⟩
  · exact h b o h1
  · rcases h b o' h2 with h4 | ⟨_, h5⟩
    · exact .inr ⟨h1, .inl ⟨o', h4, h3⟩⟩
    · exact .inr ⟨h1, h5⟩
  · exact .inr ⟨h1, .inr (Nat.le_trans hn h2)⟩

theorem storeA_dom {ti : TI} {m m' : Tr AObj} {x y : AV} {nx : Nat} (h : storeA ti m x y = some m') : Dom m m' nx := by
  unfold storeA at h
  split at h
  · split at h
    · rename_i hb
      split at h
      · injection h with h; subst h; exact Dom.set hb rfl rfl
      · cases h
    · cases h
  · cases h

theorem mapUpdA_dom {T : Tr TI} {ti : TI} {m m' : Tr AObj} {x k v : AV} {nx : Nat} (h : mapUpdA T m ti x k v = some m') : Dom m m' nx := by
  unfold mapUpdA at h
  split at h
  · split at h
    · split at h
      · split at h
        · split at h
          · rename_i hb
            split at h
            · injection h with h; subst h; exact Dom.set hb rfl rfl
            · injection h with h; subst h; exact Dom.set hb rfl rfl
            · cases h
          · cases h
        · cases h
      · cases h
    · cases h
  · cases h

theorem appendA_dom {m m' : Tr AObj} {nx nx' size bytes n : Nat} {s v : AV} {news : List AV} (h : appendA m nx size bytes s news n = some (v, m', nx')) : Dom m m' nx := by
  unfold appendA at h
  split at h
  · injection h with h; injection h with h1 h2; injection h2 with h2 h3; subst h2; exact Dom.refl _ _
  · injection h with h; injection h with h1 h2; injection h2 with h2 h3; subst h2; exact Dom.refl _ _
  · split at h
    · injection h with h; injection h with h1 h2; injection h2 with h2 h3; subst h2; exact Dom.new rfl
    · cases h
  · split at h
    · rename_i hb
      split at h
      · split at h
        · split at h
          · injection h with h; injection h with h1 h2; injection h2 with h2 h3; subst h2; exact Dom.set hb rfl rfl
          · cases h
        · split at h
          · injection h with h; injection h with h1 h2; injection h2 with h2 h3; subst h2; exact Dom.new rfl
          · cases h
      · split at h
        · injection h with h; injection h with h1 h2; injection h2 with h2 h3; subst h2
          exact Dom.trans Dom.cut (Dom.new rfl) (Nat.le_refl _)
        · cases h
    · cases h
  · cases h

theorem boxA_wr {id : Nat} {l : List AV} {v : AV} {ob : AObj} (h : boxA id l = some (v, ob)) : ob.wr = true := by
  unfold boxA at h
  split at h
  · injection h with h; injection h with h1 h2; subst h2; rfl
  · cases h

theorem aop_wr {G : Nat} {T : Tr TI} {t : Tr AV} {id : Nat} {o : Op} {v : AV} {ob : AObj} (h : aop G T t id o = some (v, ob)) : ob.wr = true := by
  unfold aop at h
  split at h
  · split at h
    · split at h
      · exact boxA_wr h
      · cases h
    · cases h
  · exact boxA_wr h
  · split at h
    · split at h
      · split at h
        · split at h
          · split at h
            · split at h
              · injection h with h; injection h with h1 h2; subst h2; rfl
              · cases h
            · cases h
          · cases h
        · cases h
      · cases h
    · cases h
  · split at h
    · split at h
      · split at h
        · split at h
          · split at h
            · injection h with h; injection h with h1 h2; subst h2; rfl
            · cases h
          · cases h
        · cases h
      · cases h
    · cases h
  · injection h with h; injection h with h1 h2; subst h2; rfl
  · split at h
    · split at h
      · injection h with h; injection h with h1 h2; subst h2; rfl
      · cases h
    · cases h
  · split at h
    · split at h
      · split at h
        · injection h with h; injection h with h1 h2; subst h2; rfl
        · cases h
      · cases h
    · cases h
  · cases h

theorem eop_dom {G : Nat} {T : Tr TI} {t : Tr AV} {m m' : Tr AObj} {nx nx' : Nat} {o : Op} {v : AV} (h : eop G T t m nx o = some (v, m', nx')) : Dom m m' nx := by
  unfold eop at h
  split at h
  · split at h
    · split at h
      · rename_i hs
        injection h with h; injection h with h1 h2; injection h2 with h2 h3; subst h2; exact storeA_dom hs
      · cases h
    · cases h
  · split at h
    · split at h
      · rename_i hs
        injection h with h; injection h with h1 h2; injection h2 with h2 h3; subst h2; exact mapUpdA_dom hs
      · cases h
    · cases h
  · split at h
    · split at h
      · rename_i hs
        injection h with h; injection h with h1 h2; injection h2 with h2 h3; subst h2; exact mapUpdA_dom hs
      · cases h
    · cases h
  · split at h
    · split at h
      · split at h
        · split at h
          · split at h
            · split at h
              · split at h
                · exact appendA_dom h
                · cases h
              · split at h
                · split at h
                  · injection h with h; injection h with h1 h2; injection h2 with h2 h3; subst h2; exact Dom.new rfl
                  · cases h
                · cases h
            · cases h
          · cases h
        · cases h
      · cases h
    · cases h
  · split at h
    · rename_i ha
      injection h with h; injection h with h1 h2; injection h2 with h2 h3; subst h2; exact Dom.new (aop_wr ha)
    · cases h

/-! A heap of which a part is worked on: the rest stays. -/
noncomputable def over (m' m : Tr AObj) (M : Nat → Option AObj) : Nat → Option AObj := fun b => match m'.get b with
  | some o => some o
  | none => match m.get b with
    | some _ => none
    | none => M b

theorem over_new {m' m : Tr AObj} {M : Nat → Option AObj} {b : Nat} {o : AObj} (h : m'.get b = some o) : over m' m M b = some o := by simp only [over, h]
theorem over_old {m' m : Tr AObj} {M : Nat → Option AObj} {b : Nat} {o : AObj} (h' : m'.get b = none) (hm : m.get b = none) (h : M b = some o) : over m' m M b = some o := by simp only [over, h', hm, h]
theorem over_inv {m' m : Tr AObj} {M : Nat → Option AObj} {b : Nat} {o : AObj} (h : over m' m M b = some o) : m'.get b = some o ∨ (m'.get b = none ∧ m.get b = none ∧ M b = some o) := by
  unfold over at h
  split at h
  · rename_i h1; rw [← h]; exact .inl h1
  · rename_i h1
    split at h
    · cases h
    · rename_i h2; exact .inr ⟨h1, h2, h⟩

/-- One step of a part. -/
theorem RH.over {E E' : Em} {m m' : Tr AObj} {M : Nat → Option AObj} {w w' : World} {nx : Nat} (h : RH E M w) (hs : ∀ b o, m.get b = some o → M b = some o) (hfr : E.fresh nx)
    (hm : RH E' m'.get w') (hg : Gone E m.get w E' m'.get w') (hd : Dom m m' nx) : RH E' (Ev.over m' m M) w' := by
  -- a block of the rest
  have rest : ∀ b o, m.get b = none → M b = some o → ∃ l, E.loc b = some l ∧ E'.loc b = some l ∧ l.blk < w.heap.size ∧ w'.heap[l.blk]? = w.heap[l.blk]? := by
    intro b o hb ho
    obtain ⟨l, hl, hlt⟩ := (h.obj b o ho).loc
    refine ⟨l, hl, hg.le.1 _ _ hl, hlt, hg.frm _ hlt ?_⟩
    intro b' o' l' hb' hw' hl' he
    have := h.inj b b' o o' l l' ho (hs _ _ hb') hl hl' he.symm
    subst this
    rw [hb] at hb'; cases hb'
  constructor
  · intro b o hb
    rcases over_inv hb with h1 | ⟨h1, h2, h3⟩
    · exact hm.obj b o h1
    · obtain ⟨l, k1, k2, k3, k4⟩ := rest b o h2 h3
      refine (h.obj b o h3).mono hg.le fun l' hl' => ?_
      rw [k1] at hl'
      injection hl' with hl'
      rw [← hl']; exact k4
  · -- a new one and one of the rest
    have mix : ∀ b b' o o' l l', m'.get b = some o → m.get b' = none → M b' = some o' → E'.loc b = some l → E'.loc b' = some l' → l.blk ≠ l'.blk := by
      intro b b' o o' l l' h1 h2 h3 hl hl' he
      obtain ⟨l2, k1, k2, k3, k4⟩ := rest b' o' h2 h3
      rw [k2] at hl'
      injection hl' with hl'
      subst hl'
      rcases hd b o h1 with h4 | ⟨hw, _⟩
      · obtain ⟨l3, q1, q2⟩ := (h.obj b o (hs _ _ h4)).loc
        have := hg.le.1 _ _ q1
        rw [hl] at this
        injection this with this
        subst this
        have := h.inj b b' o o' _ _ (hs _ _ h4) h3 q1 k1 he
        subst this
        rw [h2] at h4; cases h4
      · rcases hg.own b o l h1 hw hl with ⟨b0, o0, l0, q1, q2, q3, q4⟩ | q
        · have := h.inj b0 b' o0 o' _ _ (hs _ _ q1) h3 q3 k1 (q4.trans he)
          subst this
          rw [h2] at q1; cases q1
        · omega
    intro b b' o o' l l' hb hb' hl hl' he
    rcases over_inv hb with h1 | ⟨h1, h2, h3⟩ <;> rcases over_inv hb' with h1' | ⟨h1', h2', h3'⟩
    · exact hm.inj b b' o o' l l' h1 h1' hl hl' he
    · exact absurd he (mix b b' o o' l l' h1 h2' h3' hl hl')
    · exact absurd he.symm (mix b' b o' o l' l h1' h2 h3 hl' hl)
    · obtain ⟨l2, k1, k2, _, _⟩ := rest b o h2 h3
      obtain ⟨l3, j1, j2, _, _⟩ := rest b' o' h2' h3'
      rw [k2] at hl; injection hl with hl; subst hl
      rw [j2] at hl'; injection hl' with hl'; subst hl'
      exact h.inj b b' o o' _ _ h3 h3' k1 j1 he
end Go.Ev
