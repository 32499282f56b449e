/- The engine, part 3: operations that write nothing that was there. -/
import Derived.Test.YtoojhjhamhkmjaaLE2
import GoSem.Dispatch
set_option linter.unusedVariables false
set_option linter.unusedSimpArgs false
namespace Go.Eng

/-! ### Operands -/

def ev (env : List Value) : Operand → Option Value
  | .tmp t => env[t]?
  | .const v => if scal 8 v then some v else none
  | .global _ => none
  | .func f => some (.func (.func f) #[] #[])

/-- The temporaries. -/
def ER (r : Rho) (env : List Value) (tmps : Array Value) : Prop := ∀ (i : Nat) (v : Value), env[i]? = some v → ∃ v', tmps[i]? = some v' ∧ VR r v v'

theorem ER.mono {r r' : Rho} (hr : r.le r') {env : List Value} {t : Array Value} (h : ER r env t) : ER r' env t := fun i v a =>
  let ⟨v', b, c⟩ := h i v a; ⟨v', b, c.mono hr⟩

theorem ev_ok {r : Rho} {env : List Value} {a : Act} (h : ER r env a.tmps) {x : Operand} {v : Value} (hx : ev env x = some v) : VR r v (a.eval x) := by
  cases x with
  | tmp t =>
    obtain ⟨v', h1, h2⟩ := h t v hx
    simpa [Act.eval, h1] using h2
  | const u =>
    simp only [ev] at hx
    split at hx
    · cases hx; exact scal_refl 8 _ ‹_›
    · cases hx
  | global g => cases hx
  | func f => cases hx; exact VR.func_l (.nil r) (.nil r)

theorem ER.put {r : Rho} {env : List Value} {a : Act} (h : ER r env a.tmps) {v v' : Value} (hv : VR r v v') (dst : Option Tmp) :
    ER r (match dst with | some d => env.set d v | none => env) (a.put dst v').tmps := by
  cases dst with
  | none => exact h
  | some d =>
    intro i x hx
    rw [List.getElem?_set] at hx
    simp only [Act.put]
    by_cases e : d = i
    · subst e
      simp only [if_true] at hx
      split at hx
      · rename_i hl
        cases hx
        obtain ⟨u, hu, _⟩ := h d env[d] (by simp [hl])
        have := (Array.getElem?_eq_some_iff.1 hu).1
        exact ⟨v', by simp [this], hv⟩
      · cases hx
    · rw [if_neg e] at hx
      obtain ⟨u, hu, hv'⟩ := h i x hx
      exact ⟨u, by simp [Array.getElem?_setIfInBounds_ne e, hu], hv'⟩

/-- What operands stand for. -/
def GR (r : Rho) (g : Operand → Option Value) (a : Act) : Prop := ∀ x v, g x = some v → VR r v (a.eval x)
theorem ER.gr {r : Rho} {env : List Value} {a : Act} (h : ER r env a.tmps) : GR r (ev env) a := fun _ _ hx => ev_ok h hx

def evs (g : Operand → Option Value) : List Operand → Option (List Value)
  | [] => some []
  | x :: l => match g x, evs g l with
    | some v, some vs => some (v :: vs)
    | _, _ => none

theorem evs_ok {r : Rho} {g : Operand → Option Value} {a : Act} (h : GR r g a) : ∀ {l : List Operand} {vs : List Value}, evs g l = some vs → VL r vs (l.map a.eval) := by
  intro l
  induction l with
  | nil => intro vs hv; cases hv; exact .nil r
  | cons x l ih =>
    intro vs hv
    simp only [evs] at hv
    split at hv
    · rename_i v vs' h1 h2
      cases hv
      exact .cons (h _ _ h1) (ih h2)
    · cases hv

/-! ### What a reading operation comes to -/

abbrev RRes := Value × Option Blk

def RdOk (P : Program) (r : Rho) (w : World) (m : Nat) (s : Sem Next) : RRes → Prop
  | (v, none) => ∃ v' w', s.run P w = .ok (.value v') w' ∧ Same w w' ∧ VR r v v'
  | (v, some B) => ∃ v' w' o x, s.run P w = .ok (.value v') w' ∧ w'.os = w.os ∧ w'.tape = w.tape ∧ w'.output = w.output ∧ w'.heap = w.heap.push o ∧
      x.blk = w.heap.size ∧ BO P (r.upd m x) x B (some o) ∧ B.alone = true ∧ B.live = true ∧ VR (r.upd m x) v v'

/-- The same of a value. -/
def RdV (P : Program) (r : Rho) (w : World) (m : Nat) (s : Sem Value) : RRes → Prop
  | (v, none) => ∃ v' w', s.run P w = .ok v' w' ∧ Same w w' ∧ VR r v v'
  | (v, some B) => ∃ v' w' o x, s.run P w = .ok v' w' ∧ w'.os = w.os ∧ w'.tape = w.tape ∧ w'.output = w.output ∧ w'.heap = w.heap.push o ∧
      x.blk = w.heap.size ∧ BO P (r.upd m x) x B (some o) ∧ B.alone = true ∧ B.live = true ∧ VR (r.upd m x) v v'

def nv (s : Sem Value) : Sem Next := do pure (.value (← s))

theorem RdV.value {P : Program} {r : Rho} {w : World} {m : Nat} {s : Sem Value} {res : RRes} (h : RdV P r w m s res) :
    RdOk P r w m (nv s) res := by
  unfold nv
  obtain ⟨v, _ | B⟩ := res
  · obtain ⟨v', w', h1, h2, h3⟩ := h
    exact ⟨v', w', by simp [h1], h2, h3⟩
  · obtain ⟨v', w', o, x, h1, hh⟩ := h
    exact ⟨v', w', o, x, by simp [h1], hh⟩

theorem RdV.pure {P : Program} {r : Rho} {w : World} {m : Nat} {v v' : Value} (h : VR r v v') : RdV P r w m (Pure.pure v') (v, none) := ⟨v', w, rfl, .refl w, h⟩

/-! ### Loads -/

def isAggT (P : Program) (t : TypeId) : Option Bool :=
  match P.underlying t with
  | some (.struct _) => some true
  | some (.array _ _) => some true
  | some _ => some false
  | none => none

theorem run_isAgg {P : Program} {t : TypeId} {b : Bool} (h : isAggT P t = some b) (w : World) : (isAgg t).run P w = .ok b w := by
  unfold isAggT at h
  unfold isAgg
  rw [Sem.run_bind]
  cases hu : P.underlying t with
  | none => simp [hu] at h
  | some d =>
    rw [run_underlying hu]
    cases d <;> simp_all
theorem run_sizeT {P : Program} {t : TypeId} {n : Nat} (h : sizeT P t = some n) (w : World) : (sizeOf t).run P w = .ok n w := by
  unfold sizeT at h
  cases hu : P.info? t with
  | none => simp [hu] at h
  | some i => simp [hu] at h; subst h; simp [sizeOf, typeInfo, hu]

def hcell (h : AH) (b : Nat) : Option (List Value) :=
  match h[b]? with
  | some (.cells _ _ _ _ _ cs) => some cs
  | _ => none

theorem hcell_ok {P : Program} {r : Rho} {h : AH} {w : World} (hr : HR P r h w.heap) {b : Nat} {cs : List Value} (hc : hcell h b = some cs) {x : Loc} (hb : r b = some x) :
    ∃ vs : List Value, VL r cs vs ∧ ∀ j v', vs[j]? = some v' → w.cell? ⟨x.blk, x.off + j, none⟩ = some v' := by
  unfold hcell at hc
  split at hc
  · rename_i own solo grp del e cs' hB
    cases hc
    obtain ⟨x, hx, cur, e', fr, ho, _, _, hsz, hcell⟩ := hr.blk b _ hB rfl
    rw [hb] at hx; cases hx
    refine ⟨(cur.toList.drop x.off).take cs.length, ⟨by simp; omega, fun i v v' a b => ?_⟩, fun j v' hj => ?_⟩
    · rw [List.getElem?_take] at b
      split at b
      · rw [List.getElem?_drop] at b; exact hcell i v v' a (by simpa using b)
      · cases b
    · rw [List.getElem?_take] at hj
      split at hj
      · rw [List.getElem?_drop] at hj
        simp [World.cell?, ho]; simpa using hj
      · cases hj
  · cases hc

def rload (P : Program) (h : AH) (t : TypeId) : Value → Option RRes
  | .pointer (some ⟨b, o, none⟩) =>
    match hcell h b, isAggT P t with
    | some cs, some true =>
      match sizeT P t with
      | some n => if o + n ≤ cs.length then some (.agg ((cs.drop o).take n).toArray, none) else none
      | none => none
    | some cs, some false => (cs[o]?).map fun v => (v, none)
    | _, _ => none
  | _ => none

theorem loadCells_off {P : Program} {w : World} {g o : Nat} {vs : List Value} (h : ∀ j v', vs[j]? = some v' → w.cell? ⟨g, o + j, none⟩ = some v') :
    (loadCells ⟨g, o, none⟩ vs.length).run P w = .ok vs.toArray w :=
  run_loadCells_list (P := P) w ⟨g, o, none⟩ vs (fun j v hv => by rw [Addr.add_lit]; exact h j v hv)

theorem rload_ok2 {P : Program} {r : Rho} {h : AH} {w : World} (hr : HR P r h w.heap) {t : TypeId} {v v' : Value} (hv : VR r v v') {res : RRes} (he : rload P h t v = some res) :
    res.2 = none ∧ ∃ x', (Instr.loadAt t v').run P w = .ok x' w ∧ VR r res.1 x' := by
  unfold rload at he
  split at he
  case h_2 => cases he
  case h_1 b o =>
    obtain ⟨⟨g, d, N, S⟩, hb, _, rfl⟩ := hv.ptr_inv
    split at he
    · rename_i cs hc ha
      obtain ⟨vs, hvl, hcs⟩ := hcell_ok hr hc hb
      split at he
      · rename_i n hn
        split at he
        · rename_i hl
          cases he
          have hlen : ((vs.drop o).take n).length = n := by have := hvl.1; simp; omega
          have hl2 := loadCells_off (P := P) (w := w) (g := g) (o := o + d) (vs := (vs.drop o).take n) (fun j v' hj => by
            rw [List.getElem?_take] at hj
            split at hj
            · rw [List.getElem?_drop] at hj
              have := hcs _ _ hj
              rw [show o + d + j = d + (o + j) by omega]; exact this
            · cases hj)
          rw [hlen] at hl2
          refine ⟨rfl, .agg ((vs.drop o).take n).toArray, by simp [Instr.loadAt, Instr.sureAddr, loadVar, run_isAgg ha, run_sizeT hn, hl2], .agg_l ?_⟩
          simpa using (hvl.drop o).take n
        · cases he
      · cases he
    · rename_i cs hc ha
      obtain ⟨vs, hvl, hcs⟩ := hcell_ok hr hc hb
      cases hx : cs[o]? with
      | none => simp [hx] at he
      | some x =>
        simp [hx] at he; subst he
        obtain ⟨x', h1, h2⟩ := hvl.get hx
        have h3 := hcs _ _ h1
        simp only at h3
        rw [Nat.add_comm d o] at h3
        exact ⟨rfl, x', by simp [Instr.loadAt, Instr.sureAddr, loadVar, run_isAgg ha, h3], h2⟩
    · cases he

theorem rload_ok {P : Program} {r : Rho} {h : AH} {w : World} (hr : HR P r h w.heap) {t : TypeId} {v v' : Value} (hv : VR r v v') (m : Nat) {res : RRes} (he : rload P h t v = some res) :
    RdV P r w m (Instr.loadAt t v') res := by
  obtain ⟨u, B⟩ := res
  obtain ⟨h1, x', h2, h3⟩ := rload_ok2 hr hv he
  cases h1
  exact ⟨x', w, h2, .refl w, h3⟩

/-! ### Addresses -/

def rfieldAddr (P : Program) (s : TypeId) (f : Nat) : Value → Option RRes
  | .pointer (some ⟨b, o, none⟩) =>
    match P.underlying s with
    | some (.struct fields) =>
      match fields[f]? with
      | some fd =>
        match sizeT P fd.type with
        | some (n + 1) => some (.pointer (some ⟨b, o + fd.offset, none⟩), none)
        | _ => none
      | none => none
    | _ => none
  | _ => none

theorem rfieldAddr_ok {P : Program} {r : Rho} {w : World} {s : TypeId} {f : Nat} {v v' : Value} (hv : VR r v v') (m : Nat) {res : RRes} (he : rfieldAddr P s f v = some res) :
    RdV P r w m (Instr.fieldAt s v' f) res := by
  unfold rfieldAddr at he
  split at he
  case h_2 => cases he
  case h_1 b o =>
    obtain ⟨⟨g, d, N, S⟩, hb, _, rfl⟩ := hv.ptr_inv
    split at he
    · rename_i fields hu
      split at he
      · rename_i fd hf
        split at he
        · rename_i n hn
          cases he
          refine ⟨.pointer (some ⟨g, o + d + fd.offset, none⟩), w, ?_, .refl w, ?_⟩
          · simp [Instr.fieldAt, run_underlying hu, hf, Instr.sureAddr, fieldPlace, run_sizeT hn, Addr.add_lit]
          · have := VR.ptr (o := o + fd.offset) hb
            rwa [show o + fd.offset + d = o + d + fd.offset by omega] at this
        · cases he
      · cases he
    · cases he

def rindexAddr (P : Program) (t : TypeId) : Value → Value → Option RRes
  | .pointer (some ⟨b, o, none⟩), .int k i =>
    match P.underlying t with
    | some (.array len e) =>
      match sizeT P e with
      | some n => if 0 ≤ i ∧ i < len then some (.pointer (some ⟨b, o + i.toNat * n, none⟩), none) else none
      | none => none
    | _ => none
  | .slice (some ⟨b, o, none⟩) len c, .int k i =>
    match P.underlying t with
    | some (.slice e) =>
      match sizeT P e with
      | some n => if 0 ≤ i ∧ i < len then some (.pointer (some ⟨b, o + i.toNat * n, none⟩), none) else none
      | none => none
    | _ => none
  | _, _ => none

theorem rindexAddr_ok {P : Program} {r : Rho} {w : World} {t : TypeId} {v v' i i' : Value} (hv : VR r v v') (hi : VR r i i') (m : Nat) {res : RRes} (he : rindexAddr P t v i = some res) :
    RdV P r w m (Instr.indexAt t v' i') res := by
  unfold rindexAddr at he
  split at he
  case h_1 b o k j =>
    obtain ⟨⟨g, d, N, S⟩, hb, _, rfl⟩ := hv.ptr_inv
    cases hi.int_inv
    split at he
    · rename_i len e hu
      split at he
      · rename_i n hn
        split at he
        · rename_i hlt
          cases he
          refine ⟨.pointer (some ⟨g, o + d + j.toNat * n, none⟩), w, ?_, .refl w, ?_⟩
          · simp [Instr.indexAt, run_underlying hu, asIntOf, Instr.sureAddr, hlt, run_sizeT hn, Addr.add_lit]
          · have := VR.ptr (o := o + j.toNat * n) hb
            rwa [show o + j.toNat * n + d = o + d + j.toNat * n by omega] at this
        · cases he
      · cases he
    · cases he
  case h_2 b o len c k j =>
    cases hi.int_inv
    split at he
    · rename_i e hu
      split at he
      · rename_i n hn
        split at he
        · rename_i hlt
          cases he
          rcases hv.slice_inv with ⟨⟨g, d, N, S⟩, c', hb, _, rfl, hc, hn', hlim⟩ | ⟨rfl, _, _⟩
          · refine ⟨.pointer (some ⟨g, o + d + j.toNat * n, none⟩), w, ?_, .refl w, ?_⟩
            · simp [Instr.indexAt, run_underlying hu, asIntOf, hlt, run_sizeT hn, Addr.add_lit]
            · have := VR.ptr (o := o + j.toNat * n) hb
              rwa [show o + j.toNat * n + d = o + d + j.toNat * n by omega] at this
          · omega
        · cases he
      · cases he
    · cases he
  case h_3 => cases he

/-- A bound of a slice: none, or a number in int's or another kind. -/
def bnd (dflt : Nat) (most : Nat) : Option Value → Option Nat
  | none => some dflt
  | some (.int _ i) => if 0 ≤ i ∧ i ≤ most then some i.toNat else none
  | _ => none

/-- The element type of a row. -/
def helem (h : AH) (b : Nat) : Option TypeId :=
  match h[b]? with
  | some (.cells _ _ _ _ e _) => some e
  | _ => none

theorem helem_ok {P : Program} {r : Rho} {h : AH} {W : Array Obj} (hr : HR P r h W) {b : Nat} {e : TypeId} (he : helem h b = some e) {x : Loc} (hb : r b = some x) : sizeT P e = some x.sz := by
  unfold helem at he
  split at he
  · rename_i own solo grp del e0 cs hB
    cases he
    obtain ⟨y, hy, cur, e', fr, _, _, hs, _⟩ := hr.blk b _ hB rfl
    rw [hb] at hy; cases hy; exact hs
  · cases he

def rslice (P : Program) (h0 : AH) (t : TypeId) (x : Value) (lo hi mx : Option Value) : Option RRes :=
  match P.underlying t, x with
  | some (.slice e), .slice (some ⟨b, o, none⟩) n c =>
    if helem h0 b = some e then
    match sizeT P e, mx with
    | some sz, none =>
      match bnd n c hi with
      | some h => match bnd 0 h lo with
        | some l => some (.slice (some ⟨b, o + l * sz, none⟩) (h - l) (c - l), none)
        | none => none
      | none => none
    | some sz, some mxv =>
      match bnd 0 c (some mxv) with
      | some k => match hi with
        | none => none
        | some hv => match bnd 0 k (some hv) with
          | some h => match bnd 0 h lo with
            | some l => some (.slice (some ⟨b, o + l * sz, none⟩) (h - l) (k - l), none)
            | none => none
          | none => none
      | none => none
    | _, _ => none
    else none
  | some (.slice e), .slice none 0 0 =>
    match sizeT P e, mx, bnd 0 0 hi, bnd 0 0 lo with
    | some _, none, some _, some _ => some (.slice none 0 0, none)
    | _, _, _, _ => none
  | _, _ => none

def VO (r : Rho) : Option Value → Option Value → Prop
  | none, none => True
  | some v, some v' => VR r v v'
  | _, _ => False

theorem run_bnd {P : Program} {w : World} {k : IntKind} {i : Int} {y : Nat} (h : 0 ≤ i ∧ i ≤ y) (code : BoundsCode) : (Instr.sliceBound (.int k i) y code).run P w = .ok i.toNat w := by
  simp [Instr.sliceBound, asIntOf, h]

theorem bnd_some {dflt most n : Nat} {v : Value} (h : bnd dflt most (some v) = some n) : ∃ k i, v = .int k i ∧ 0 ≤ i ∧ i ≤ most ∧ n = i.toNat := by
  unfold bnd at h
  split at h
  · cases ‹_ = none›
  · rename_i k i e
    cases e
    split at h
    · cases h; exact ⟨k, i, rfl, ‹_ ∧ _›.1, ‹_ ∧ _›.2, rfl⟩
    · cases h
  · cases h

theorem bnd_same {r : Rho} {y y' : Option Value} {dflt most n : Nat} (h : VO r y y') (hb : bnd dflt most y = some n) : y' = y := by
  cases y with
  | none => cases y' with
    | none => rfl
    | some => exact h.elim
  | some v =>
    cases y' with
    | none => exact h.elim
    | some v' =>
      obtain ⟨k, i, rfl, _⟩ := bnd_some hb
      cases (show VR r (.int k i) v' from h).int_inv
      rfl

theorem bnd_le {dflt most n : Nat} {y : Option Value} (hd : dflt ≤ most) (hb : bnd dflt most y = some n) : n ≤ most := by
  cases y with
  | none => cases hb; exact hd
  | some v => obtain ⟨k, i, rfl, h0, h1, rfl⟩ := bnd_some hb; omega

theorem run_bounds {P : Program} {w : World} {n c c' l h : Nat} {lo hi : Option Value} (hc : c ≤ c') (hn : n ≤ c) (hh : bnd n c hi = some h) (hl : bnd 0 h lo = some l) :
    (Instr.sliceBounds true n c' lo hi none).run P w = .ok (l, h, c') w := by
  cases hi with
  | none =>
    cases hh
    cases lo with
    | none => cases hl; simp [Instr.sliceBounds]
    | some v =>
      obtain ⟨k, i, rfl, h0, h1, rfl⟩ := bnd_some hl
      simp [Instr.sliceBounds, run_bnd (P := P) (w := w) (k := k) ⟨h0, h1⟩]
  | some u =>
    obtain ⟨k, i, rfl, h0, h1, rfl⟩ := bnd_some hh
    have e1 := run_bnd (P := P) (w := w) (k := k) (y := c') (i := i) ⟨h0, by omega⟩
    cases lo with
    | none => cases hl; simp [Instr.sliceBounds, e1]
    | some v =>
      obtain ⟨k', i', rfl, h0', h1', rfl⟩ := bnd_some hl
      have e2 := run_bnd (P := P) (w := w) (k := k') (y := i.toNat) (i := i') ⟨h0', h1'⟩
      simp only [Instr.sliceBounds, Sem.run_bind, Sem.run_pure, Result.andThen_ok, Option.isSome_none, if_true, Bool.false_eq_true, if_false, e1, e2]

theorem run_bounds3 {P : Program} {w : World} {n c c' l h k : Nat} {lo : Option Value} {hi mx : Value} (hc : c ≤ c') (hk : bnd 0 c (some mx) = some k) (hh : bnd 0 k (some hi) = some h) (hl : bnd 0 h lo = some l) :
    (Instr.sliceBounds true n c' lo (some hi) (some mx)).run P w = .ok (l, h, k) w := by
  obtain ⟨k1, i1, rfl, p0, p1, rfl⟩ := bnd_some hk
  obtain ⟨k2, i2, rfl, q0, q1, rfl⟩ := bnd_some hh
  have e1 := run_bnd (P := P) (w := w) (k := k1) (y := c') (i := i1) ⟨p0, by omega⟩
  have e2 := run_bnd (P := P) (w := w) (k := k2) (y := i1.toNat) (i := i2) ⟨q0, q1⟩
  cases lo with
  | none => cases hl; simp only [Instr.sliceBounds, Sem.run_bind, Sem.run_pure, Result.andThen_ok, if_true, e1, e2]
  | some v =>
    obtain ⟨k', i', rfl, h0', h1', rfl⟩ := bnd_some hl
    have e3 := run_bnd (P := P) (w := w) (k := k') (y := i2.toNat) (i := i') ⟨h0', h1'⟩
    simp only [Instr.sliceBounds, Sem.run_bind, Sem.run_pure, Result.andThen_ok, Option.isSome_some, if_true, e1, e2, e3]

theorem run_slice_some {P : Program} {w : World} {t e : TypeId} {g o n c l h k sz : Nat} {lo hi mx : Option Value} (hu : P.underlying t = some (.slice e)) (hs : sizeT P e = some sz)
    (hb : (Instr.sliceBounds true n c lo hi mx).run P w = .ok (l, h, k) w) :
    (Instr.sliceAt t (.slice (some ⟨g, o, none⟩) n c) lo hi mx).run P w = .ok (.slice (if k = l then some ⟨g, o, none⟩ else some ⟨g, o + l * sz, none⟩) (h - l) (k - l)) w := by
  simp [Instr.sliceAt, Instr.slice, run_underlying hu, hb, run_sizeT hs, Addr.add_lit]

theorem run_slice_any {P : Program} {w : World} {t e : TypeId} {n c sz : Nat} {a : Option Addr} {lo hi mx : Option Value} (hu : P.underlying t = some (.slice e)) (hs : sizeT P e = some sz)
    (hb : (Instr.sliceBounds true n c lo hi mx).run P w = .ok (0, 0, 0) w) :
    (Instr.sliceAt t (.slice a n c) lo hi mx).run P w = .ok (.slice a 0 0) w := by
  simp [Instr.sliceAt, Instr.slice, run_underlying hu, hb, run_sizeT hs]

theorem rslice_ok {P : Program} {r : Rho} {h0 : AH} {w : World} (hr : HR P r h0 w.heap) {t : TypeId} {x x' : Value} {lo hi mx lo' hi' mx' : Option Value} (hx : VR r x x') (hlo : VO r lo lo') (hhi : VO r hi hi') (hmx : VO r mx mx')
    (m : Nat) {res : RRes} (he : rslice P h0 t x lo hi mx = some res) : RdV P r w m (Instr.sliceAt t x' lo' hi' mx') res := by
  unfold rslice at he
  split at he
  case h_1 e b o n c hu =>
    split at he
    case isFalse => cases he
    case isTrue helm =>
    split at he
    case h_1 sz hsz =>
      cases mx' with
      | some => exact hmx.elim
      | none =>
      split at he
      case h_2 => cases he
      case h_1 h hh =>
        split at he
        case h_2 => cases he
        case h_1 l hl =>
          cases he
          cases bnd_same hhi hh
          cases bnd_same hlo hl
          rcases hx.slice_inv with ⟨⟨g, d, N, S⟩, c', hb, _, rfl, hc, hn', hlim⟩ | ⟨rfl, rfl, a', rfl⟩
          · have hS : S = sz := by have := helem_ok hr helm hb; rw [hsz] at this; cases this; rfl
            subst hS
            have hle := bnd_le (Nat.zero_le h) hl
            have hle2 := bnd_le hn' hh
            refine ⟨_, w, run_slice_some hu hsz (run_bounds hc hn' hh hl), .refl w, ?_⟩
            simp only
            split
            · rename_i e; subst e
              rw [show h - c' = 0 by omega, show c - c' = 0 by omega]
              exact .sempty rfl (by omega)
            · have hmul : l * S + (c' - l) * S = c' * S := by rw [← Nat.add_mul]; congr 1; omega
              have := VR.slice (o := o + l * S) (n := h - l) (c := c - l) (c' := c' - l) hb (by omega) (by omega) (by simp only at hlim ⊢; omega)
              simp only at this
              rwa [show o + l * S + d = o + d + l * S by omega] at this
          · have h0 : h = 0 := Nat.le_zero.1 (bnd_le (Nat.le_refl 0) hh)
            subst h0
            have l0 : l = 0 := Nat.le_zero.1 (bnd_le (Nat.le_refl 0) hl)
            subst l0
            exact ⟨_, w, run_slice_any hu hsz (run_bounds (Nat.le_refl 0) (Nat.le_refl 0) hh hl), .refl w, .sempty rfl rfl⟩
    case h_2 sz mxv hsz =>
      cases mx' with
      | none => exact hmx.elim
      | some mxv' =>
      split at he
      case h_2 => cases he
      case h_1 k hk =>
        split at he
        case h_1 => cases he
        case h_2 hv =>
          split at he
          case h_2 => cases he
          case h_1 h hh =>
            split at he
            case h_2 => cases he
            case h_1 l hl =>
              cases he
              cases bnd_same hhi hh
              cases bnd_same hlo hl
              cases bnd_same hmx hk
              have hle := bnd_le (Nat.zero_le h) hl
              have hle2 := bnd_le (Nat.zero_le k) hh
              rcases hx.slice_inv with ⟨⟨g, d, N, S⟩, c', hb, _, rfl, hc, hn', hlim⟩ | ⟨rfl, rfl, a', rfl⟩
              · have hS : S = sz := by have := helem_ok hr helm hb; rw [hsz] at this; cases this; rfl
                subst hS
                have hkc := bnd_le (Nat.zero_le c) hk
                refine ⟨_, w, run_slice_some hu hsz (run_bounds3 hc hk hh hl), .refl w, ?_⟩
                simp only
                split
                · rename_i e
                  rw [show h - l = 0 by omega, show k - l = 0 by omega]
                  exact .sempty rfl rfl
                · have hmul : l * S + (k - l) * S = k * S := by rw [← Nat.add_mul]; congr 1; omega
                  have hmul2 : k * S ≤ c' * S := Nat.mul_le_mul_right _ (by omega)
                  have := VR.slice (o := o + l * S) (n := h - l) (c := k - l) (c' := k - l) hb (by omega) (by omega) (by simp only at hlim ⊢; omega)
                  simp only at this
                  rwa [show o + l * S + d = o + d + l * S by omega] at this
              · have k0 : k = 0 := Nat.le_zero.1 (bnd_le (Nat.le_refl 0) hk)
                subst k0
                have h0 : h = 0 := by omega
                subst h0
                have l0 : l = 0 := by omega
                subst l0
                exact ⟨_, w, run_slice_any hu hsz (run_bounds3 (Nat.le_refl 0) hk hh hl), .refl w, .sempty rfl rfl⟩
    case h_3 => cases he
  case h_2 e hu =>
    obtain ⟨_, _, rfl⟩ := hx.snil_inv
    split at he
    case h_2 => cases he
    case h_1 sz a1 a2 hsz hh hl =>
      cases he
      cases mx' with
      | some => exact hmx.elim
      | none =>
      cases bnd_same hhi hh
      cases bnd_same hlo hl
      have h0 : a1 = 0 := Nat.le_zero.1 (bnd_le (Nat.le_refl 0) hh)
      subst h0
      have l0 : a2 = 0 := Nat.le_zero.1 (bnd_le (Nat.le_refl 0) hl)
      subst l0
      exact ⟨_, w, run_slice_any hu hsz (run_bounds (Nat.le_refl 0) (Nat.le_refl 0) hh hl), .refl w, .snil⟩
  case h_3 => cases he

end Go.Eng
