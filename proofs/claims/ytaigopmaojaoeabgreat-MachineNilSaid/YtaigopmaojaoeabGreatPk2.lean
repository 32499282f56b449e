import Derived.Test.YtaigopmaojaoeabGreatPk1
import Derived.Lib.ConvBytes
import Derived.Laws.BytesString
set_option linter.unusedVariables false
set_option linter.unusedSimpArgs false
namespace Go.Eng
def rpart (P : Program) (t : TypeId) (cs : List Value) (off : Nat) : Option Value :=
  match isAggT P t with
  | some true => (sizeT P t).map fun n => .agg ((cs.drop off).take n).toArray
  | some false => cs[off]?
  | none => none
theorem rpart_ok {P : Program} {r : Rho} {w : World} {t : TypeId} {cs : List Value} {cs' : Array Value} (h : VL r cs cs'.toList) {off : Nat} {v : Value} (he : rpart P t cs off = some v) :
    ∃ v', (part t cs' off).run P w = .ok v' w /\ VR r v v' := by
  unfold rpart at he
  split at he
  · rename_i ha
    cases hs : sizeT P t with
    | none => simp [hs] at he
    | some n =>
      simp [hs] at he; subst he
      refine ⟨.agg (cs'.extract off (off + n)), by simp [part, run_isAgg ha, run_sizeT hs], .agg_l ?_⟩
      have : (cs'.extract off (off + n)).toList = (cs'.toList.drop off).take n := by
        rw [Array.toList_extract]; simp [List.extract]
      rw [this]
      simpa using (h.drop off).take n
  · rename_i ha
    obtain ⟨v', h1, h2⟩ := h.get he
    exact ⟨v', by simp only [Array.getElem?_toList] at h1; simp [part, run_isAgg ha, h1], h2⟩
  · cases he
def rfield (P : Program) (t : TypeId) (f : Nat) : Value -> Option RRes
  | .agg cs =>
    match P.underlying t with
    | some (.struct fields) =>
      match fields[f]? with
      | some fd => (rpart P fd.type cs.toList fd.offset).map fun v => (v, none)
      | none => none
    | _ => none
  | _ => none
theorem rfield_ok {P : Program} {r : Rho} {w : World} {t : TypeId} {f : Nat} {v v' : Value} (hv : VR r v v') (m : Nat) {res : RRes} (he : rfield P t f v = some res) :
    RdV P r w m (Instr.field t v' f) res := by
  unfold rfield at he
  split at he
  case h_2 => cases he
  case h_1 cs =>
    obtain ⟨cs', rfl, hcs⟩ := hv.agg_inv
    split at he
    case h_2 => cases he
    case h_1 fields hu =>
      split at he
      case h_2 => cases he
      case h_1 fd hf =>
        cases hp : rpart P fd.type cs.toList fd.offset with
        | none => simp [hp] at he
        | some x =>
          simp [hp] at he; subst he
          obtain ⟨x', h1, h2⟩ := rpart_ok (w := w) hcs hp
          exact ⟨x', w, by simp [Instr.field, run_underlying hu, hf, asAgg, h1], .refl w, h2⟩
def rindexAgg (P : Program) (t : TypeId) : Value -> Value -> Option RRes
  | .agg cs, .int _ i =>
    match P.underlying t with
    | some (.array len e) =>
      match sizeT P e with
      | some n => if 0 <= i /\ i < len then (rpart P e cs.toList (i.toNat * n)).map fun v => (v, none) else none
      | none => none
    | _ => none
  | _, _ => none
theorem rindexAgg_ok {P : Program} {r : Rho} {w : World} {t : TypeId} {v v' i i' : Value} (hv : VR r v v') (hi : VR r i i') (m : Nat) {res : RRes} (he : rindexAgg P t v i = some res) :
    RdV P r w m (Instr.index t v' i') res := by
  unfold rindexAgg at he
  split at he
  case h_2 => cases he
  case h_1 cs k j =>
    obtain ⟨cs', rfl, hcs⟩ := hv.agg_inv
    cases hi.int_inv
    split at he
    case h_2 => cases he
    case h_1 len e hu =>
      split at he
      case h_2 => cases he
      case h_1 n hn =>
        split at he
        case isFalse => cases he
        case isTrue hlt =>
          cases hp : rpart P e cs.toList (j.toNat * n) with
          | none => simp [hp] at he
          | some x =>
            simp [hp] at he; subst he
            obtain ⟨x', h1, h2⟩ := rpart_ok (w := w) hcs hp
            exact ⟨x', w, by simp [Instr.index, run_underlying hu, asIntOf, hlt, run_sizeT hn, h1], .refl w, h2⟩
def rextract (i : Nat) : Value -> Option RRes
  | .tuple vs => (vs.toList[i]?).map fun v => (v, none)
  | _ => none
theorem rextract_ok {P : Program} {r : Rho} {w : World} {i : Nat} {v v' : Value} (hv : VR r v v') (m : Nat) {res : RRes} (he : rextract i v = some res) :
    RdV P r w m (Instr.extract v' i) res := by
  unfold rextract at he
  split at he
  case h_2 => cases he
  case h_1 vs =>
    obtain ⟨vs', rfl, hvs⟩ := hv.tuple_inv
    cases hx : vs.toList[i]? with
    | none => simp [hx] at he
    | some x =>
      simp only [hx, Option.map_some, Option.some.injEq] at he; subst he
      obtain ⟨x', h1, h2⟩ := hvs.get hx
      exact ⟨x', w, by simp only [Array.getElem?_toList] at h1; simp [Instr.extract, h1], .refl w, h2⟩
def zeroT (P : Program) (t : TypeId) : Option Value :=
  match P.info? t with
  | some i => match i.zero with
    | some z => if scal 8 z then some z else none
    | none => none
  | none => none
theorem run_zeroT {P : Program} {t : TypeId} {z : Value} (h : zeroT P t = some z) (w : World) : (zeroValue t).run P w = .ok z w /\ scal 8 z = true := by
  unfold zeroT at h
  split at h
  case h_2 => cases h
  case h_1 i hi =>
    split at h
    case h_2 => cases h
    case h_1 z' hz =>
      split at h
      · cases h; exact ⟨by simp [zeroValue, typeInfo, hi, hz], ‹_›⟩
      · cases h
def PR (r : Rho) (l l' : List (Nat × Value)) : Prop := l.length = l'.length /\ ∀ (i : Nat) (p p' : Nat × Value), l[i]? = some p -> l'[i]? = some p' -> p.1 = p'.1 /\ VR r p.2 p'.2
theorem PR.cons_inv {r : Rho} {p : Nat × Value} {l l' : List (Nat × Value)} (h : PR r (p :: l) l') : ∃ p' m, l' = p' :: m /\ p.1 = p'.1 /\ VR r p.2 p'.2 /\ PR r l m := by
  cases l' with
  | nil => have := h.1; simp at this
  | cons p' m =>
    exact ⟨p', m, rfl, (h.2 0 p p' rfl rfl).1, (h.2 0 p p' rfl rfl).2, by have := h.1; simpa using this, fun i x x' a b => h.2 (i + 1) x x' (by simpa using a) (by simpa using b)⟩
theorem VL.foldSet {r : Rho} (off : Nat) : ∀ (xs xs' : List (Value × Nat)) (cs cs' : Array Value), xs.length = xs'.length ->
    (∀ (i : Nat) (x x' : Value × Nat), xs[i]? = some x -> xs'[i]? = some x' -> x.2 = x'.2 /\ VR r x.1 x'.1) -> VL r cs.toList cs'.toList ->
    VL r (xs.foldl (fun cs (x : Value × Nat) => cs.setIfInBounds (off + x.2) x.1) cs).toList (xs'.foldl (fun cs (x : Value × Nat) => cs.setIfInBounds (off + x.2) x.1) cs').toList := by
  intro xs
  induction xs with
  | nil => intro xs' cs cs' h _ hc; cases xs' with
    | nil => exact hc
    | cons => simp at h
  | cons x xs ih =>
    intro xs' cs cs' h hx hc
    cases xs' with
    | nil => simp at h
    | cons x' xs' =>
      simp only [List.foldl_cons]
      obtain ⟨e1, e2⟩ := hx 0 x x' rfl rfl
      refine ih xs' _ _ (by simpa using h) (fun i a b ha hb => hx (i + 1) a b (by simpa using ha) (by simpa using hb)) ?_
      rw [Array.toList_setIfInBounds, Array.toList_setIfInBounds, <- e1]
      exact hc.set e2 _
theorem fill_ok {r : Rho} (place : Nat -> Option (Nat × Nat)) : ∀ (l l' : List (Nat × Value)) (cs cs' out : Array Value), PR r l l' -> VL r cs.toList cs'.toList -> Instr.fill place cs l = some out ->
    ∃ out', Instr.fill place cs' l' = some out' /\ VL r out.toList out'.toList := by
  intro l
  induction l with
  | nil =>
    intro l' cs cs' out hl hc h
    cases l' with
    | nil => simp [Instr.fill] at h ⊢; subst h; exact hc
    | cons => have := hl.1; simp at this
  | cons p l ih =>
    intro l' cs cs' out hl hc h
    obtain ⟨p', m, rfl, e1, e2, e3⟩ := hl.cons_inv
    obtain ⟨i, v⟩ := p
    obtain ⟨i', v'⟩ := p'
    simp only at e1 e2; subst e1
    simp only [Instr.fill] at h ⊢
    cases hp : place i with
    | none => simp [hp] at h
    | some q =>
      obtain ⟨off, size⟩ := q
      simp only [hp] at h ⊢
      have hcells := e2.cells
      have hs : v'.cells.size = v.cells.size := by have := hcells.1; simpa using this.symm
      have hcs : cs'.size = cs.size := by have := hc.1; simpa using this.symm
      split at h
      · cases h
      · rename_i hcond
        rw [if_neg (by rw [hs, hcs]; exact hcond)]
        refine ih m _ _ out e3 ?_ h
        have := VL.foldSet (r := r) off v.cells.zipIdx.toList v'.cells.zipIdx.toList cs cs' (by simp [hs]) (fun i x x' a b => by
          simp only [Array.toList_zipIdx, List.getElem?_zipIdx, Option.map_eq_some_iff] at a b
          obtain ⟨y, hy, rfl⟩ := a
          obtain ⟨y', hy', rfl⟩ := b
          exact ⟨rfl, hcells.2 i y y' hy hy'⟩) hc
        simp only [<- Array.foldl_toList]
        exact this
def evp (g : Operand -> Option Value) : List (Nat × Operand) -> Option (List (Nat × Value))
  | [] => some []
  | (i, x) :: l => match g x, evp g l with
    | some v, some vs => some ((i, v) :: vs)
    | _, _ => none
theorem evp_ok {r : Rho} {g : Operand -> Option Value} {a : Act} (h : GR r g a) : ∀ {l : List (Nat × Operand)} {vs : List (Nat × Value)}, evp g l = some vs -> PR r vs (l.map fun p => (p.1, a.eval p.2)) := by
  intro l
  induction l with
  | nil => intro vs hv; cases hv; exact ⟨rfl, fun i p p' h => by simp at h⟩
  | cons x l ih =>
    obtain ⟨i, x⟩ := x
    intro vs hv
    simp only [evp] at hv
    split at hv
    · rename_i v vs' h1 h2
      cases hv
      have k := ih h2
      refine ⟨by simpa using k.1, fun j p p' ha hb => ?_⟩
      cases j with
      | zero => simp at ha hb; subst ha; subst hb; exact ⟨rfl, h _ _ h1⟩
      | succ j => simp at ha hb; exact k.2 j p p' ha (by simpa using hb)
    · cases hv
def places (P : Program) : List Field -> Option (List (Nat × Nat))
  | [] => some []
  | f :: l => match sizeT P f.type, places P l with
    | some n, some r => some ((f.offset, n) :: r)
    | _, _ => none
theorem run_places {P : Program} {w : World} : ∀ {l : List Field} {out : List (Nat × Nat)}, places P l = some out ->
    (l.mapM fun f => (do pure (f.offset, <- sizeOf f.type) : Sem (Nat × Nat))).run P w = .ok out w := by
  intro l
  induction l with
  | nil => intro out h; cases h; rfl
  | cons f l ih =>
    intro out h
    simp only [places] at h
    split at h
    · rename_i n r h1 h2
      cases h
      simp only [List.mapM_cons, Sem.run_bind, run_sizeT h1, ih h2, Result.andThen_ok, Sem.run_pure]
    · cases h
def rbuild (P : Program) (t : TypeId) (parts : List (Nat × Value)) : Option RRes :=
  match zeroT P t, P.underlying t with
  | some z, some (.struct fields) =>
    match places P fields.toList with
    | some pl => (Instr.fill (fun i => pl[i]?) z.cells parts).map fun cs => (.agg cs, none)
    | none => none
  | some z, some (.array _ e) =>
    match sizeT P e with
    | some n => (Instr.fill (fun i => some (i * n, n)) z.cells parts).map fun cs => (.agg cs, none)
    | none => none
  | _, _ => none
theorem scal_cells {r : Rho} {n : Nat} {z : Value} (h : scal n z = true) : VL r z.cells.toList z.cells.toList := (scal_refl (r := r) n z h).cells
theorem rbuild_ok {P : Program} {r : Rho} {w : World} {t : TypeId} {parts : List (Nat × Value)} {parts' : Array (Nat × Value)} (hp : PR r parts parts'.toList) (m : Nat) {res : RRes} (he : rbuild P t parts = some res) :
    RdV P r w m (Instr.build t parts') res := by
  unfold rbuild at he
  split at he
  case h_3 => cases he
  case h_1 z fields hz hu =>
    split at he
    case h_2 => cases he
    case h_1 pl hpl =>
      cases hf : Instr.fill (fun i => pl[i]?) z.cells parts with
      | none => simp [hf] at he
      | some cs =>
        simp only [hf, Option.map_some, Option.some.injEq] at he; subst he
        obtain ⟨cs', h1, h2⟩ := fill_ok _ _ _ _ _ _ hp (scal_cells (run_zeroT hz w).2) hf
        have hm : (fields.mapM fun f => (do pure (f.offset, <- sizeOf f.type) : Sem (Nat × Nat))).run P w = .ok pl.toArray w := by
          rw [Array.mapM_eq_mapM_toList]
          simp only [Sem.run_map, run_places hpl, Result.andThen_ok]
        exact ⟨.agg cs', w, by simp only [Instr.build, Sem.run_bind, (run_zeroT hz w).1, run_underlying hu, hm, Result.andThen_ok, List.getElem?_toArray, h1, Sem.run_pure], .refl w, .agg_l h2⟩
  case h_2 z k e hz hu =>
    split at he
    case h_2 => cases he
    case h_1 n hn =>
      cases hf : Instr.fill (fun i => some (i * n, n)) z.cells parts with
      | none => simp [hf] at he
      | some cs =>
        simp only [hf, Option.map_some, Option.some.injEq] at he; subst he
        obtain ⟨cs', h1, h2⟩ := fill_ok _ _ _ _ _ _ hp (scal_cells (run_zeroT hz w).2) hf
        exact ⟨.agg cs', w, by simp [Instr.build, (run_zeroT hz w).1, run_underlying hu, run_sizeT hn, h1], .refl w, .agg_l h2⟩
def row (e : TypeId) (m : Nat) (cs : List Value) : Blk := .cells true true m 0 e cs
theorem row_bo {P : Program} {r : Rho} {e : TypeId} {m : Nat} {cs : List Value} {cs' : Array Value} (h : VL r cs cs'.toList) {g sz : Nat} (hs : sizeT P e = some sz) :
    BO P r ⟨g, 0, cs'.size, sz⟩ (row e m cs) (some (.cells cs' e)) :=
  ⟨cs', e, (0, 0), rfl, fun _ => ⟨rfl, rfl, rfl, fun _ => rfl⟩, hs, by have := h.1; simp at this ⊢; omega, fun i v v' a b => h.2 i v v' a (by simpa using b)⟩
theorem RdV.newRow {P : Program} {r : Rho} {w : World} {m : Nat} (hm : r m = none) {s : Sem Value} {e : TypeId} {cs : List Value} {cs' : Array Value} {n c sz : Nat} (h : VL r cs cs'.toList) (hn : n <= c)
    (hse : sizeT P e = some sz) (hcap : c * sz <= cs'.size)
    (hs : s.run P w = .ok (.slice (some ⟨w.heap.size, 0, none⟩) n c) (w.alloc (.cells cs' e))) : RdV P r w m s (.slice (some ⟨m, 0, none⟩) n c, some (row e m cs)) := by
  refine ⟨_, _, _, ⟨w.heap.size, 0, cs'.size, sz⟩, hs, rfl, rfl, rfl, rfl, rfl, row_bo (h.mono (Rho.le_upd hm _)) hse, rfl, rfl, ?_⟩
  exact VR.slice (o := 0) (Rho.upd_same _ _ _) (Nat.le_refl c) hn (by simpa using hcap)
theorem RdV.newVar {P : Program} {r : Rho} {w : World} {m : Nat} (hm : r m = none) {s : Sem Value} {e : TypeId} {cs : List Value} {cs' : Array Value} {sz : Nat} (h : VL r cs cs'.toList) (hse : sizeT P e = some sz)
    (hs : s.run P w = .ok (.pointer (some ⟨w.heap.size, 0, none⟩)) (w.alloc (.cells cs' e))) : RdV P r w m s (.pointer (some ⟨m, 0, none⟩), some (row e m cs)) := by
  refine ⟨_, _, _, ⟨w.heap.size, 0, cs'.size, sz⟩, hs, rfl, rfl, rfl, rfl, rfl, row_bo (h.mono (Rho.le_upd hm _)) hse, rfl, rfl, ?_⟩
  exact VR.ptr (o := 0) (Rho.upd_same _ _ _)
theorem foldSet_size (off : Nat) : ∀ (xs : List (Value × Nat)) (cs : Array Value), (xs.foldl (fun cs (x : Value × Nat) => cs.setIfInBounds (off + x.2) x.1) cs).size = cs.size := by
  intro xs
  induction xs with
  | nil => intro cs; rfl
  | cons x xs ih => intro cs; simp only [List.foldl_cons]; rw [ih]; simp
theorem fill_size (place : Nat -> Option (Nat × Nat)) : ∀ (l : List (Nat × Value)) (cs out : Array Value), Instr.fill place cs l = some out -> out.size = cs.size := by
  intro l
  induction l with
  | nil => intro cs out h; simp [Instr.fill] at h; subst h; rfl
  | cons p l ih =>
    intro cs out h
    obtain ⟨i, v⟩ := p
    simp only [Instr.fill] at h
    cases hp : place i with
    | none => simp [hp] at h
    | some q =>
      obtain ⟨off, size⟩ := q
      simp only [hp] at h
      split at h
      · cases h
      · rw [ih _ _ h]
        simp only [<- Array.foldl_toList]
        exact foldSet_size off _ cs
def rbuildSlice (P : Program) (m : Nat) (t : TypeId) (len : Nat) (parts : List (Nat × Value)) : Option RRes :=
  match P.underlying t with
  | some (.slice e) =>
    match sizeT P e, zeroT P e with
    | some sz, some z =>
      if len * sz <= 16777216 then
        let cs0 := (Array.range (len * sz)).map (z.cells[· % z.cells.size]!)
        if cs0.toList.all (scal 8) then
          (Instr.fill (fun i => some (i * sz, sz)) cs0 parts).map fun cs => (.slice (some ⟨m, 0, none⟩) len len, some (row e m cs.toList))
        else none
      else none
    | _, _ => none
  | _ => none
theorem rbuildSlice_ok {P : Program} {r : Rho} {w : World} {m : Nat} (hm : r m = none) {t : TypeId} {len : Nat} {parts : List (Nat × Value)} {parts' : Array (Nat × Value)} (hp : PR r parts parts'.toList) {res : RRes}
    (he : rbuildSlice P m t len parts = some res) : RdV P r w m (Instr.buildSlice t len parts') res := by
  unfold rbuildSlice at he
  split at he
  case h_2 => cases he
  case h_1 e hu =>
    split at he
    case h_2 => cases he
    case h_1 sz z hs hz =>
      split at he
      case isFalse => cases he
      case isTrue hlen =>
        dsimp only at he
        split at he
        case isFalse => cases he
        case isTrue hall =>
          cases hf : Instr.fill (fun i => some (i * sz, sz)) ((Array.range (len * sz)).map (z.cells[· % z.cells.size]!)) parts with
          | none => simp only [hf, Option.map_none] at he; cases he
          | some cs =>
            simp only [hf, Option.map_some, Option.some.injEq] at he; subst he
            obtain ⟨cs', h1, h2⟩ := fill_ok _ _ _ _ _ _ hp (all_refl (r := r) (fun v => scal_refl 8 v) hall) hf
            have hz1 := (run_zeroT hz w).1
            have hle : ¬ (16777216 < len * sz) := by omega
            refine RdV.newRow hm h2 (Nat.le_refl len) hs (by rw [fill_size _ _ _ _ h1]; simp) ?_
            by_cases h0 : len * sz = 0
            · have e1 : (Array.range (len * sz)).map (z.cells[· % z.cells.size]!) = #[] := by simp [h0]
              rw [e1] at h1
              simp [Instr.buildSlice, run_underlying hu, run_sizeT hs, h0, h1, newRow, Array.range_zero']
            · simp [Instr.buildSlice, run_underlying hu, run_sizeT hs, h0, hle, hz1, h1, newRow]
def ralloc (P : Program) (m : Nat) (t : TypeId) : Option RRes :=
  match zeroT P t, sizeT P t with
  | some z, some _ => some (.pointer (some ⟨m, 0, none⟩), some (row t m z.cells.toList))
  | _, _ => none
theorem ralloc_ok {P : Program} {r : Rho} {w : World} {m : Nat} (hm : r m = none) {t : TypeId} {res : RRes} (he : ralloc P m t = some res) : RdV P r w m (Instr.alloc t true (.tuple #[])) res := by
  unfold ralloc at he
  split at he
  · rename_i z sz hz hs
    cases he
    exact RdV.newVar hm (scal_cells (run_zeroT hz w).2) hs (by simp [Instr.alloc, (run_zeroT hz w).1, newVar, newRow])
  · cases he
def rbox (P : Program) (m : Nat) (t : TypeId) (v : Value) : Option RRes :=
  match sizeT P t with
  | some _ => some (.pointer (some ⟨m, 0, none⟩), some (row t m v.cells.toList))
  | none => none
theorem rbox_ok {P : Program} {r : Rho} {w : World} {m : Nat} (hm : r m = none) {t : TypeId} {v v' : Value} (hv : VR r v v') {res : RRes} (he : rbox P m t v = some res) : RdV P r w m (Instr.box t v') res := by
  unfold rbox at he
  split at he
  · rename_i sz hs
    cases he
    exact RdV.newVar hm hv.cells hs (by simp [Instr.box, newVar, newRow])
  · cases he
def rmakeSlice (P : Program) (m : Nat) (t : TypeId) : Value -> Value -> Option RRes
  | .int _ l, .int _ c =>
    match P.underlying t with
    | some (.slice e) =>
      match P.info? e, zeroT P e with
      | some i, some z =>
        if 0 <= l /\ l <= c /\ c < 9223372036854775808 /\ i.bytes * c <= 140737488355328 then
          let cs := (Array.range (c.toNat * i.size)).map (z.cells[· % z.cells.size]!)
          if cs.toList.all (scal 8) then some (.slice (some ⟨m, 0, none⟩) l.toNat c.toNat, some (row e m cs.toList)) else none
        else none
      | _, _ => none
    | _ => none
  | _, _ => none
theorem wrap_of {x : Int} (h0 : 0 <= x) (h1 : x < 9223372036854775808) : IntKind.i64.wrap x = x := by
  show (if (true && decide (x % (18446744073709551616 : Int) ≥ (9223372036854775808 : Int))) = true then x % (18446744073709551616 : Int) - (18446744073709551616 : Int) else x % (18446744073709551616 : Int)) = x
  have : x % (18446744073709551616 : Int) = x := Int.emod_eq_of_lt h0 (by omega)
  rw [this]
  rw [if_neg (by simp; omega)]
theorem rmakeSlice_ok {P : Program} {r : Rho} {w : World} {m : Nat} (hm : r m = none) {t : TypeId} {l l' c c' : Value} (hl : VR r l l') (hc : VR r c c') {res : RRes} (he : rmakeSlice P m t l c = some res) :
    RdV P r w m (Instr.makeSlice t l' c') res := by
  unfold rmakeSlice at he
  split at he
  case h_2 => cases he
  case h_1 k1 l k2 c =>
    cases hl.int_inv; cases hc.int_inv
    split at he
    case h_2 => cases he
    case h_1 e hu =>
      split at he
      case h_2 => cases he
      case h_1 i z hi hz =>
        split at he
        case isFalse => cases he
        case isTrue hcond =>
          dsimp only at he
          split at he
          case isFalse => cases he
          case isTrue hall =>
            cases he
            obtain ⟨h0, h1, h2, h3⟩ := hcond
            have wl := wrap_of h0 (by omega)
            have wc := wrap_of (x := c) (by omega) h2
            have hs : sizeT P e = some i.size := by simp [sizeT, hi]
            refine RdV.newRow hm (all_refl (r := r) (fun v => scal_refl 8 v) hall) (by omega) hs (by simp) ?_
            have e1 : ¬ (c < 0) := by omega
            have e2 : ¬ (281474976710656 < (i.bytes : Int) * c) := by omega
            have e3 : ¬ (l < 0) := by omega
            have e4 : ¬ (c < l) := by omega
            have e5 : ¬ (140737488355328 < (c.toNat : Int) * (i.bytes : Int)) := by
              have : ((c.toNat : Int)) = c := by omega
              rw [this, Int.mul_comm]; omega
            by_cases h0 : c.toNat * i.size = 0
            · have e1' : (Array.range (c.toNat * i.size)).map (z.cells[· % z.cells.size]!) = #[] := by simp [h0]
              rw [e1']
              simp [Instr.makeSlice, run_underlying hu, asInt, asIntOf, typeInfo, hi, wl, wc, e1, e2, e3, e4, run_sizeT hs, h0, newRow, Array.range_zero']
            · simp [Instr.makeSlice, run_underlying hu, asInt, asIntOf, typeInfo, hi, wl, wc, e1, e2, e3, e4, run_sizeT hs, h0, (run_zeroT hz w).1, newRow]
def rmakeMap (m : Nat) : RRes := (.map (some m), some (.map []))
theorem rmakeMap_ok {P : Program} {r : Rho} {w : World} {m : Nat} (hm : r m = none) {t : TypeId} : RdV P r w m (Instr.makeMap t none) (rmakeMap m) := by
  exact ⟨.map (some w.heap.size), w.alloc (.map #[] 0), .map #[] 0, ⟨w.heap.size, 0, 0, 0⟩, by simp [Instr.makeMap], rfl, rfl, rfl, rfl, rfl, ⟨#[], 0, rfl, rfl, rfl, fun i kv e h => by simp at h⟩, rfl, rfl, .map (Rho.upd_same _ _ _) rfl⟩
def rmakeInterface (P : Program) (t : TypeId) (v : Value) : Option RRes :=
  match P.underlying t with
  | some (.interface _) => none
  | some _ => some (.iface t v, none)
  | none => none
theorem rmakeInterface_ok {P : Program} {r : Rho} {w : World} {m : Nat} {t : TypeId} {v v' : Value} (hv : VR r v v') {res : RRes} (he : rmakeInterface P t v = some res) :
    RdV P r w m (Instr.makeInterface t v') res := by
  unfold rmakeInterface at he
  split at he
  · cases he
  · rename_i d hd hu
    cases he
    refine ⟨.iface t v', w, ?_, .refl w, .iface hv⟩
    unfold Instr.makeInterface
    rw [Sem.run_bind, run_underlying hu]
    cases d <;> first | (exact absurd rfl (hd _)) | rfl
  · cases he
end Go.Eng

namespace Go.Eng
def refEq (P : Program) (t : TypeId) : Value -> Value -> Option Bool
  | .pointer none, .pointer b => match P.underlying t with
    | some (.pointer _) => some b.isNone
    | _ => none
  | .pointer (some a), .pointer none => match P.underlying t with
    | some (.pointer _) => some false
    | _ => none
  | .pointer (some ⟨ab, ao, none⟩), .pointer (some ⟨bb, bo, none⟩) => match P.underlying t with
    | some (.pointer e) => match sizeT P e with
      | some (_ + 1) => if ab = bb then some (ao == bo) else none
      | _ => none
    | _ => none
  | .slice none _ _, .slice b _ _ => match P.underlying t with
    | some (.slice _) => some b.isNone
    | _ => none
  | .slice (some _) _ _, .slice none _ _ => match P.underlying t with
    | some (.slice _) => some false
    | _ => none
  | .map none, .map b => match P.underlying t with
    | some (.map _ _) => some b.isNone
    | _ => none
  | .map (some _), .map none => match P.underlying t with
    | some (.map _ _) => some false
    | _ => none
  | .func _ _ _, .nilFunc => match P.underlying t with
    | some (.func _ _ _) => some false
    | _ => none
  | .nilFunc, .func _ _ _ => match P.underlying t with
    | some (.func _ _ _) => some false
    | _ => none
  | .nilIface, .iface _ _ => match P.underlying t with
    | some (.interface _) => some false
    | _ => none
  | .iface _ _, .nilIface => match P.underlying t with
    | some (.interface _) => some false
    | _ => none
  | _, _ => none
theorem refEq_ok1 {P : Program} {r : Rho} {w : World} {t : TypeId} {x x' y y' : Value} (hx : VR r x x') (hy : VR r y y') {b : Bool} (he : refEq P t x y = some b) (op : BinOp) (ox oy : Operand) (dep : Nat) :
    (Op.equalIn (dep + 1) t x' y').run P w = .ok b w /\ eqGuard op t ox oy x' y' = pure () := by
  unfold refEq at he
  split at he
  · cases hx
    cases hy <;> (split at he <;> cases he; rename_i hu; exact ⟨by simp [Op.equalIn, run_underlying hu], eqGuard_at_pointer ..⟩)
  · cases hx <;> cases hy <;> (split at he <;> cases he; rename_i hu; exact ⟨by simp [Op.equalIn, run_underlying hu], eqGuard_at_pointer ..⟩)
  case h_3 ab ao bb bo =>
    obtain ⟨xa, ha, rfl⟩ := hx.ptr_inv
    obtain ⟨xb, hb, rfl⟩ := hy.ptr_inv
    split at he
    case h_2 => cases he
    case h_1 e hu =>
      split at he
      case h_2 => cases he
      case h_1 n hn =>
        split at he
        case isFalse => cases he
        case isTrue hblk =>
          cases he
          rw [hblk, hb] at ha; cases ha
          refine ⟨?_, eqGuard_at_pointer ..⟩
          have key : ((⟨xa.blk, ao + xa.off, none⟩ : Addr) == ⟨xa.blk, bo + xa.off, none⟩) = (ao == bo) := by
            rw [Bool.eq_iff_iff]
            simp
          simp [Op.equalIn, run_underlying hu, run_sizeT hn, sameAddr, key]
  · obtain ⟨_, _, rfl⟩ := hx.snil_inv
    cases hy <;> (split at he <;> cases he; rename_i hu; exact ⟨by simp [Op.equalIn, run_underlying hu], eqGuard_at_slice ..⟩)
  · obtain ⟨_, _, rfl⟩ := hy.snil_inv
    cases hx <;> (split at he <;> cases he; rename_i hu; exact ⟨by simp [Op.equalIn, run_underlying hu], eqGuard_at_slice ..⟩)
  · cases hx
    cases hy <;> (split at he <;> cases he; rename_i hu; exact ⟨by simp [Op.equalIn, run_underlying hu], eqGuard_at_map ..⟩)
  · cases hx; cases hy
    split at he <;> cases he; rename_i hu; exact ⟨by simp [Op.equalIn, run_underlying hu], eqGuard_at_map ..⟩
  · obtain ⟨f', c', rfl, _, _⟩ := hx.func_inv
    cases hy
    split at he <;> cases he; rename_i hu; exact ⟨by simp [Op.equalIn, run_underlying hu], eqGuard_at_func ..⟩
  · obtain ⟨f', c', rfl, _, _⟩ := hy.func_inv
    cases hx
    split at he <;> cases he; rename_i hu; exact ⟨by simp [Op.equalIn, run_underlying hu], eqGuard_at_nilFunc ..⟩
  · obtain ⟨u, rfl, _⟩ := hy.iface_inv
    cases hx
    split at he <;> cases he; rename_i hu; exact ⟨by simp [Op.equalIn, run_underlying hu], eqGuard_nil_iface ..⟩
  · obtain ⟨u, rfl, _⟩ := hx.iface_inv
    cases hy
    split at he <;> cases he; rename_i hu; exact ⟨by simp [Op.equalIn, run_underlying hu], eqGuard_at_iface ..⟩
  · cases he
theorem refEq_ok {P : Program} {r : Rho} {w : World} {t : TypeId} {x x' y y' : Value} (hx : VR r x x') (hy : VR r y y') {b : Bool} (he : refEq P t x y = some b) (op : BinOp) (ox oy : Operand) :
    (Op.equal t x' y').run P w = .ok b w /\ eqGuard op t ox oy x' y' = pure () := refEq_ok1 hx hy he op ox oy 9999
def rcmp (P : Program) (op : BinOp) (t : TypeId) (x y : Value) : Option RRes :=
  match op with
  | .eql => (refEq P t x y).map fun b => (.bool b, none)
  | .neq => (refEq P t x y).map fun b => (.bool !b, none)
  | _ => none
theorem refEq_kinds {P : Program} {t : TypeId} {x y : Value} {b : Bool} (he : refEq P t x y = some b) {r : Rho} {x' y' : Value} (hx : VR r x x') (hy : VR r y y') :
    binOp .eql t x' y' = (do pure (.bool (<- Op.equal t x' y'))) /\ binOp .neq t x' y' = (do pure (.bool (!(<- Op.equal t x' y')))) := by
  unfold refEq at he
  split at he
  case h_12 => cases he
  all_goals (cases hx <;> cases hy <;> exact ⟨rfl, rfl⟩)
theorem rcmp_ok {P : Program} {r : Rho} {w : World} {op : BinOp} {t : TypeId} {x x' y y' : Value} (hx : VR r x x') (hy : VR r y y') (m : Nat) {res : RRes} (he : rcmp P op t x y = some res) (ox oy : Operand) :
    RdV P r w m (do eqGuard op t ox oy x' y'; binOp op t x' y') res := by
  unfold rcmp at he
  split at he
  · cases hb : refEq P t x y with
    | none => simp [hb] at he
    | some b =>
      simp [hb] at he; subst he
      obtain ⟨h1, h2⟩ := refEq_ok (w := w) hx hy hb .eql ox oy
      refine ⟨.bool b, w, ?_, .refl w, .bool b⟩
      rw [h2, (refEq_kinds hb hx hy).1]
      simp [h1]
  · cases hb : refEq P t x y with
    | none => simp [hb] at he
    | some b =>
      simp [hb] at he; subst he
      obtain ⟨h1, h2⟩ := refEq_ok (w := w) hx hy hb .neq ox oy
      refine ⟨.bool !b, w, ?_, .refl w, .bool _⟩
      rw [h2, (refEq_kinds hb hx hy).2]
      simp [h1]
  · cases he
def entryOf (kv : Value × Value) : MapEntry := { key := kv.1, val := kv.2, born := 0 }
def keysScal (es : List (Value × Value)) : Bool := es.all fun kv => scal 8 kv.1
theorem findNow_congr {kind : TypeDesc} {k : Value} : ∀ (es : List (Value × Value)) (ms : List MapEntry) (i : Nat), es.length = ms.length -> (∀ (j : Nat) (kv : Value × Value) (m : MapEntry), es[j]? = some kv -> ms[j]? = some m -> m.key = kv.1) ->
    match Instr.findNow kind k (es.map entryOf) i with
    | some (some (j, _)) => ∃ q m, j = i + q /\ ms[q]? = some m /\ Instr.findNow kind k ms i = some (some (j, m.val))
    | some none => Instr.findNow kind k ms i = some none
    | none => Instr.findNow kind k ms i = none := by
  intro es
  induction es with
  | nil => intro ms i h _; cases ms with
    | nil => simp [Instr.findNow]
    | cons => simp at h
  | cons kv es ih =>
    intro ms i h hk
    cases ms with
    | nil => simp at h
    | cons m ms =>
      have hm := hk 0 kv m rfl rfl
      simp only [List.map_cons, Instr.findNow, entryOf, hm]
      cases hs : Instr.sameNow kind k kv.1 with
      | none => simp
      | some b =>
        cases b with
        | true => simp
        | false =>
          have := ih ms (i + 1) (by simpa using h) (fun j a b ha hb => hk (j + 1) a b (by simpa using ha) (by simpa using hb))
          simp only
          revert this
          cases hf : Instr.findNow kind k (es.map entryOf) (i + 1) with
          | none => exact fun h => h
          | some o =>
            cases o with
            | none => exact fun h => h
            | some p =>
              obtain ⟨j, v⟩ := p
              rintro ⟨q, m', rfl, h1, h2⟩
              exact ⟨q + 1, m', by omega, by simpa using h1, h2⟩
theorem pureRun_bind {P : Program} {α β : Type} (s : Sem α) (f : α -> Sem β) : pureRun P (s >>= f) = (pureRun P s).bind fun a => pureRun P (f a) := by
  show pureRun P (s.bind f) = _
  induction s with
  | pure a => rfl
  | program k ih => simp only [Sem.bind, pureRun]; exact ih P
  | mark m k ih => simp only [Sem.bind, pureRun]; exact ih
  | _ => simp [Sem.bind, pureRun]
theorem findAsking_congr {P : Program} {w : World} {kt : TypeId} {k : Value} : ∀ (es : List (Value × Value)) (ms : List MapEntry) (i : Nat), es.length = ms.length -> (∀ (j : Nat) (kv : Value × Value) (m : MapEntry), es[j]? = some kv -> ms[j]? = some m -> m.key = kv.1) ->
    ∀ o, pureRun P (Instr.findAsking kt k (es.map entryOf) i) = some o ->
    match o with
    | some (j, _) => ∃ q m, j = i + q /\ ms[q]? = some m /\ (Instr.findAsking kt k ms i).run P w = .ok (some (j, m.val)) w
    | none => (Instr.findAsking kt k ms i).run P w = .ok none w := by
  intro es
  induction es with
  | nil => intro ms i h _ o ho; cases ms with
    | nil => cases ho; rfl
    | cons => simp at h
  | cons kv es ih =>
    intro ms i h hk o ho
    cases ms with
    | nil => simp at h
    | cons m ms =>
      have hm := hk 0 kv m rfl rfl
      simp only [List.map_cons, Instr.findAsking, entryOf, pureRun_bind] at ho
      cases he : pureRun P (Op.equal kt k kv.1) with
      | none => simp [he] at ho
      | some b =>
        have hr := pureRun_run he w
        simp only [he, Option.bind_some] at ho
        simp only [Instr.findAsking, hm, Sem.run_bind, hr, Result.andThen_ok]
        cases b with
        | true => simp only [if_true] at ho ⊢; cases ho; exact ⟨0, m, rfl, rfl, rfl⟩
        | false =>
          simp only [Bool.false_eq_true, if_false] at ho ⊢
          have := ih ms (i + 1) (by simpa using h) (fun j a b ha hb => hk (j + 1) a b (by simpa using ha) (by simpa using hb)) o ho
          revert this
          cases o with
          | none => exact fun h => h
          | some p =>
            obtain ⟨j, v⟩ := p
            rintro ⟨q, m', rfl, h1, h2⟩
            exact ⟨q + 1, m', by omega, by simpa using h1, h2⟩
def rfind (P : Program) (kt : TypeId) (k : Value) (es : List (Value × Value)) : Option (Option Nat) :=
  if scal 8 k && keysScal es then
    match pureRun P (Instr.checkKey es.isEmpty 10000 kt k), pureRun P (Instr.findKey kt k (es.map entryOf)) with
    | some _, some (some (j, _)) => some (some j)
    | some _, some none => some none
    | _, _ => none
  else none
theorem rfind_ok {P : Program} {r : Rho} {w : World} {kt : TypeId} {k k' : Value} (hk : VR r k k') {es : List (Value × Value)} {ms : Array MapEntry} (hlen : es.length = ms.size)
    (hes : ∀ (i : Nat) (kv : Value × Value) (m : MapEntry), es[i]? = some kv -> ms[i]? = some m -> VR r kv.1 m.key /\ VR r kv.2 m.val) {o : Option Nat} (he : rfind P kt k es = some o) :
    k' = k /\ (Instr.checkKey ms.isEmpty 10000 kt k').run P w = .ok () w /\
    match o with
    | some j => ∃ m, ms[j]? = some m /\ (Instr.findKey kt k' ms.toList).run P w = .ok (some (j, m.val)) w
    | none => (Instr.findKey kt k' ms.toList).run P w = .ok none w := by
  unfold rfind at he
  split at he
  case isFalse => cases he
  case isTrue hs =>
    simp only [Bool.and_eq_true] at hs
    have hkk := scal_eq 8 k k' hs.1 hk
    subst hkk
    have hempty : ms.isEmpty = es.isEmpty := by
      cases es with
      | nil => simp at hlen; simp [Array.isEmpty, <- hlen]
      | cons => simp at hlen; simp [Array.isEmpty, <- hlen]
    have hkeys : ∀ (j : Nat) (kv : Value × Value) (m : MapEntry), es[j]? = some kv -> ms.toList[j]? = some m -> m.key = kv.1 := fun j kv m a b =>
      scal_eq 8 _ _ (List.all_eq_true.1 hs.2 kv (List.mem_of_getElem? a)) (hes j kv m a (by simpa using b)).1
    have hl : es.length = ms.toList.length := by simpa using hlen
    have main : ∀ o', pureRun P (Instr.findKey kt k' (es.map entryOf)) = some o' ->
        match o' with
        | some (j, _) => ∃ m, ms[j]? = some m /\ (Instr.findKey kt k' ms.toList).run P w = .ok (some (j, m.val)) w
        | none => (Instr.findKey kt k' ms.toList).run P w = .ok none w := by
      intro o' ho
      simp only [Instr.findKey, pureRun_bind] at ho
      cases hu : pureRun P (underlying kt) with
      | none => simp [hu] at ho
      | some d =>
        have hur := pureRun_run hu w
        simp only [hu, Option.bind_some] at ho
        have hn := findNow_congr (kind := d) (k := k') es ms.toList 0 hl hkeys
        simp only [Instr.findKey, Sem.run_bind, hur, Result.andThen_ok]
        revert hn ho
        cases hf : Instr.findNow d k' (es.map entryOf) 0 with
        | none =>
          intro ho hn
          rw [hn]
          simp only at ho ⊢
          have := findAsking_congr (P := P) (w := w) es ms.toList 0 hl hkeys o' ho
          revert this
          cases o' with
          | none => exact fun h => h
          | some p =>
            obtain ⟨j, v⟩ := p
            rintro ⟨q, m, rfl, h1, h2⟩
            rw [Nat.zero_add] at h2 ⊢
            exact ⟨m, by simpa using h1, h2⟩
        | some fo =>
          cases fo with
          | none => intro ho hn; cases ho; rw [hn]; rfl
          | some p =>
            obtain ⟨j, v⟩ := p
            rintro ho ⟨q, m, rfl, h1, h2⟩
            cases ho
            rw [h2, Nat.zero_add]
            exact ⟨m, by simpa using h1, rfl⟩
    refine ⟨rfl, ?_⟩
    split at he
    · rename_i u j v h1 h2
      cases he
      rw [hempty]
      exact ⟨pureRun_run h1 w, main _ h2⟩
    · rename_i u h1 h2
      cases he
      rw [hempty]
      exact ⟨pureRun_run h1 w, main _ h2⟩
    · cases he
def hmap (h : AH) (b : Nat) : Option (List (Value × Value)) :=
  match h[b]? with
  | some (.map es) => some es
  | _ => none
theorem hmap_ok {P : Program} {r : Rho} {h : AH} {w : World} (hr : HR P r h w.heap) {b : Nat} {es : List (Value × Value)} (hc : hmap h b = some es) {x : Loc} (hb : r b = some x) :
    ∃ ms clock, w.heap[x.blk]? = some (.map ms clock) /\ es.length = ms.size /\ ∀ (i : Nat) (kv : Value × Value) (m : MapEntry), es[i]? = some kv -> ms[i]? = some m -> VR r kv.1 m.key /\ VR r kv.2 m.val := by
  unfold hmap at hc
  split at hc
  · rename_i es' hB
    cases hc
    obtain ⟨x, hx, ces, clock, h1, h2, h3, h4⟩ := hr.blk b _ hB rfl
    rw [hb] at hx; cases hx
    exact ⟨ces, clock, h1, h3, h4⟩
  · cases hc
theorem run_getMap {P : Program} {w : World} {g : Nat} {ms : Array MapEntry} {clock : Nat} (h : w.heap[g]? = some (.map ms clock)) : (getObj g).run P w = .ok (.map ms clock) w := by
  simp [getObj, Sem.run, h]
def rlookup (P : Program) (h : AH) (t : TypeId) (x k : Value) (ok : Bool) : Option RRes :=
  match P.underlying t with
  | some (.map kt e) =>
    match (match x with | .map none => some [] | .map (some b) => hmap h b | _ => none) with
    | some es =>
      match rfind P kt k es with
      | some (some j) => (es[j]?).map fun kv => (if ok then .tuple #[kv.2, .bool true] else kv.2, none)
      | some none => (zeroT P e).map fun z => (if ok then .tuple #[z, .bool false] else z, none)
      | none => none
    | none => none
  | _ => none
theorem rlookup_end {P : Program} {r : Rho} {w : World} {kt e : TypeId} {k k' : Value} (hk : VR r k k') {ok : Bool} {es : List (Value × Value)} {ms : Array MapEntry} (hlen : es.length = ms.size)
    (hent : ∀ (i : Nat) (kv : Value × Value) (m : MapEntry), es[i]? = some kv -> ms[i]? = some m -> VR r kv.1 m.key /\ VR r kv.2 m.val) {res : RRes}
    (he : (match rfind P kt k es with
      | some (some j) => (es[j]?).map fun kv => (if ok then .tuple #[kv.2, .bool true] else kv.2, none)
      | some none => (zeroT P e).map fun z => (if ok then .tuple #[z, .bool false] else z, none)
      | none => none : Option RRes) = some res) :
    ∃ v', VR r res.1 v' /\ res.2 = none /\ (Instr.checkKey ms.isEmpty 10000 kt k').run P w = .ok () w /\
      ((∃ j u, (Instr.findKey kt k' ms.toList).run P w = .ok (some (j, u)) w /\ v' = if ok then .tuple #[u, .bool true] else u) \/
       (∃ z, (Instr.findKey kt k' ms.toList).run P w = .ok none w /\ (zeroValue e).run P w = .ok z w /\ v' = if ok then .tuple #[z, .bool false] else z)) := by
  split at he
  · rename_i j hf
    obtain ⟨rfl, hck, mm, hm, hfk⟩ := rfind_ok (w := w) hk hlen hent hf
    cases hkv : es[j]? with
    | none => simp [hkv] at he
    | some kv =>
      simp only [hkv, Option.map_some, Option.some.injEq] at he; subst he
      have hv := (hent j kv mm hkv hm).2
      refine ⟨_, ?_, rfl, hck, .inl ⟨j, mm.val, hfk, rfl⟩⟩
      cases ok with
      | true => exact VR.tuple_l (.cons hv (.cons (.bool true) (.nil r)))
      | false => exact hv
  · rename_i hf
    obtain ⟨rfl, hck, hfk⟩ := rfind_ok (w := w) hk hlen hent hf
    cases hz : zeroT P e with
    | none => simp [hz] at he
    | some z =>
      simp only [hz, Option.map_some, Option.some.injEq] at he; subst he
      obtain ⟨hz1, hz2⟩ := run_zeroT hz w
      have hv : VR r z z := scal_refl 8 z hz2
      refine ⟨_, ?_, rfl, hck, .inr ⟨z, hfk, hz1, rfl⟩⟩
      cases ok with
      | true => exact VR.tuple_l (.cons hv (.cons (.bool false) (.nil r)))
      | false => exact hv
  · cases he
theorem rlookup_ok {P : Program} {r : Rho} {h : AH} {w : World} (hr : HR P r h w.heap) {t : TypeId} {x x' k k' : Value} (hx : VR r x x') (hk : VR r k k') {ok : Bool} (m : Nat) {res : RRes}
    (he : rlookup P h t x k ok = some res) : RdV P r w m (Instr.lookup t x' k' ok) res := by
  unfold rlookup at he
  split at he
  case h_2 => cases he
  case h_1 kt e hu =>
    split at he
    case h_2 => cases he
    case h_1 es hes =>
      obtain ⟨v, B⟩ := res
      split at hes
      · cases hx; cases hes
        obtain ⟨v', h1, rfl, h3, ⟨j, u, h4, rfl⟩ | ⟨z, h4, h5, rfl⟩⟩ := rlookup_end (ms := #[]) (w := w) hk rfl (fun i kv m a => by simp at a) he
        · exact ⟨_, w, by simp only [Instr.lookup, Sem.run_bind, run_underlying hu, Result.andThen_ok, h3, h4, Sem.run_pure], .refl w, h1⟩
        · exact ⟨_, w, by simp only [Instr.lookup, Sem.run_bind, run_underlying hu, Result.andThen_ok, h3, h4, h5, Sem.run_pure], .refl w, h1⟩
      · obtain ⟨g, hb, _, rfl⟩ := hx.map_inv
        obtain ⟨ms, clock, g1, g2, g3⟩ := hmap_ok hr hes hb
        obtain ⟨v', h1, rfl, h3, ⟨j, u, h4, rfl⟩ | ⟨z, h4, h5, rfl⟩⟩ := rlookup_end (w := w) hk g2 g3 he
        · exact ⟨_, w, by simp only [Instr.lookup, Sem.run_bind, run_underlying hu, Result.andThen_ok, run_getMap g1, h3, h4, Sem.run_pure], .refl w, h1⟩
        · exact ⟨_, w, by simp only [Instr.lookup, Sem.run_bind, run_underlying hu, Result.andThen_ok, run_getMap g1, h3, h4, h5, Sem.run_pure], .refl w, h1⟩
      · cases hes
end Go.Eng
