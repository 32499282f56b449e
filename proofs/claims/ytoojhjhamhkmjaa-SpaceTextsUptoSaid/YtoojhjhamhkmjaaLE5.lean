/- The engine, part 5: comparisons, look-ups, texts; all reading operations in one. -/
import Derived.Test.YtoojhjhamhkmjaaLE4
import Derived.Lib.ConvBytes
import Derived.Laws.BytesString
set_option linter.unusedVariables false
set_option linter.unusedSimpArgs false
namespace Go.Eng

/-! ### The same -/

def refEq (P : Program) (t : TypeId) : Value → Value → Option Bool
  | .pointer none, .pointer b => match P.underlying t with
    | some (.pointer _) => some b.isNone
    | _ => none
  | .pointer (some a), .pointer none => match P.underlying t with
    | some (.pointer _) => some false
    | _ => none
  | .pointer (some a), .pointer (some b) => match P.underlying t with
    | some (.pointer e) => match sizeT P e with
      | some (_ + 1) => if a.block = b.block then some (a.off == b.off) else none
      | _ => none
    | _ => none
  | .slice none _ _, .slice b _ _ => match P.underlying t with
    | some (.slice _) => some b.isNone
    | _ => none
  | .slice (some _) _ _, .slice none _ _ => match P.underlying t with
    | some (.slice _) => some false
    | _ => none
  | .map none, .map b => match P.underlying t with
    | some (.map _ _) => some b.isNone
    | _ => none
  | .map (some _), .map none => match P.underlying t with
    | some (.map _ _) => some false
    | _ => none
  | .func _ _ _, .nilFunc => match P.underlying t with
    | some (.func _ _ _) => some false
    | _ => none
  | .nilFunc, .func _ _ _ => match P.underlying t with
    | some (.func _ _ _) => some false
    | _ => none
  | .nilIface, .iface _ _ => match P.underlying t with
    | some (.interface _) => some false
    | _ => none
  | .iface _ _, .nilIface => match P.underlying t with
    | some (.interface _) => some false
    | _ => none
  | _, _ => none

theorem refEq_ok1 {P : Program} {r : Rho} {w : World} {t : TypeId} {x x' y y' : Value} (hx : VR r x x') (hy : VR r y y') {b : Bool} (he : refEq P t x y = some b) (op : BinOp) (ox oy : Operand) (dep : Nat) :
    (Op.equalIn (dep + 1) t x' y').run P w = .ok b w ∧ eqGuard op t ox oy x' y' = pure () := by
  unfold refEq at he
  split at he
  · cases hx
    cases hy <;> (split at he <;> cases he; rename_i hu; exact ⟨by simp [Op.equalIn, run_underlying hu], eqGuard_at_pointer ..⟩)
  · cases hx; cases hy
    split at he <;> cases he; rename_i hu; exact ⟨by simp [Op.equalIn, run_underlying hu], eqGuard_at_pointer ..⟩
  case h_3 a b =>
    obtain ⟨xa, ha, sa, rfl⟩ := hx.ptr_inv
    obtain ⟨xb, hb, sb, rfl⟩ := hy.ptr_inv
    split at he
    case h_2 => cases he
    case h_1 e hu =>
      split at he
      case h_2 => cases he
      case h_1 n hn =>
        split at he
        case isFalse => cases he
        case isTrue hblk =>
          cases he
          rw [hblk, hb] at ha; cases ha
          refine ⟨?_, eqGuard_at_pointer ..⟩
          have key : ((⟨xa.blk, a.off + xa.off, none⟩ : Addr) == ⟨xa.blk, b.off + xa.off, none⟩) = (a.off == b.off) := by
            rw [Bool.eq_iff_iff]
            simp
          simp [Op.equalIn, run_underlying hu, run_sizeT hn, sameAddr, key]
  · obtain ⟨_, _, rfl⟩ := hx.snil_inv
    cases hy <;> (split at he <;> cases he; rename_i hu; exact ⟨by simp [Op.equalIn, run_underlying hu], eqGuard_at_slice ..⟩)
  · obtain ⟨_, _, rfl⟩ := hy.snil_inv
    cases hx <;> (split at he <;> cases he; rename_i hu; exact ⟨by simp [Op.equalIn, run_underlying hu], eqGuard_at_slice ..⟩)
  · cases hx
    cases hy <;> (split at he <;> cases he; rename_i hu; exact ⟨by simp [Op.equalIn, run_underlying hu], eqGuard_at_map ..⟩)
  · cases hx; cases hy
    split at he <;> cases he; rename_i hu; exact ⟨by simp [Op.equalIn, run_underlying hu], eqGuard_at_map ..⟩
  · obtain ⟨f', c', rfl, _, _⟩ := hx.func_inv
    cases hy
    split at he <;> cases he; rename_i hu; exact ⟨by simp [Op.equalIn, run_underlying hu], eqGuard_at_func ..⟩
  · obtain ⟨f', c', rfl, _, _⟩ := hy.func_inv
    cases hx
    split at he <;> cases he; rename_i hu; exact ⟨by simp [Op.equalIn, run_underlying hu], eqGuard_at_nilFunc ..⟩
  · obtain ⟨u, rfl, _⟩ := hy.iface_inv
    cases hx
    split at he <;> cases he; rename_i hu; exact ⟨by simp [Op.equalIn, run_underlying hu], eqGuard_nil_iface ..⟩
  · obtain ⟨u, rfl, _⟩ := hx.iface_inv
    cases hy
    split at he <;> cases he; rename_i hu; exact ⟨by simp [Op.equalIn, run_underlying hu], eqGuard_at_iface ..⟩
  · cases he

theorem refEq_ok {P : Program} {r : Rho} {w : World} {t : TypeId} {x x' y y' : Value} (hx : VR r x x') (hy : VR r y y') {b : Bool} (he : refEq P t x y = some b) (op : BinOp) (ox oy : Operand) :
    (Op.equal t x' y').run P w = .ok b w ∧ eqGuard op t ox oy x' y' = pure () := refEq_ok1 hx hy he op ox oy 9999

def rcmp (P : Program) (op : BinOp) (t : TypeId) (x y : Value) : Option RRes :=
  match op with
  | .eql => (refEq P t x y).map fun b => (.bool b, none)
  | .neq => (refEq P t x y).map fun b => (.bool !b, none)
  | _ => none

theorem refEq_kinds {P : Program} {t : TypeId} {x y : Value} {b : Bool} (he : refEq P t x y = some b) {r : Rho} {x' y' : Value} (hx : VR r x x') (hy : VR r y y') :
    binOp .eql t x' y' = (do pure (.bool (← Op.equal t x' y'))) ∧ binOp .neq t x' y' = (do pure (.bool (!(← Op.equal t x' y')))) := by
  unfold refEq at he
  split at he
  case h_12 => cases he
  all_goals (cases hx <;> cases hy <;> exact ⟨rfl, rfl⟩)

theorem rcmp_ok {P : Program} {r : Rho} {w : World} {op : BinOp} {t : TypeId} {x x' y y' : Value} (hx : VR r x x') (hy : VR r y y') (m : Nat) {res : RRes} (he : rcmp P op t x y = some res) (ox oy : Operand) :
    RdV P r w m (do eqGuard op t ox oy x' y'; binOp op t x' y') res := by
  unfold rcmp at he
  split at he
  · cases hb : refEq P t x y with
    | none => simp [hb] at he
    | some b =>
      simp [hb] at he; subst he
      obtain ⟨h1, h2⟩ := refEq_ok (w := w) hx hy hb .eql ox oy
      refine ⟨.bool b, w, ?_, .refl w, .bool b⟩
      rw [h2, (refEq_kinds hb hx hy).1]
      simp [h1]
  · cases hb : refEq P t x y with
    | none => simp [hb] at he
    | some b =>
      simp [hb] at he; subst he
      obtain ⟨h1, h2⟩ := refEq_ok (w := w) hx hy hb .neq ox oy
      refine ⟨.bool !b, w, ?_, .refl w, .bool _⟩
      rw [h2, (refEq_kinds hb hx hy).2]
      simp [h1]
  · cases he

/-! ### Maps read -/

def entryOf (kv : Value × Value) : MapEntry := { key := kv.1, val := kv.2, born := 0 }

def keysScal (es : List (Value × Value)) : Bool := es.all fun kv => scal 8 kv.1

theorem findNow_congr {kind : TypeDesc} {k : Value} : ∀ (es : List (Value × Value)) (ms : List MapEntry) (i : Nat), es.length = ms.length → (∀ (j : Nat) (kv : Value × Value) (m : MapEntry), es[j]? = some kv → ms[j]? = some m → m.key = kv.1) →
    match Instr.findNow kind k (es.map entryOf) i with
    | some (some (j, _)) => ∃ q m, j = i + q ∧ ms[q]? = some m ∧ Instr.findNow kind k ms i = some (some (j, m.val))
    | some none => Instr.findNow kind k ms i = some none
    | none => Instr.findNow kind k ms i = none := by
  intro es
  induction es with
  | nil => intro ms i h _; cases ms with
    | nil => simp [Instr.findNow]
    | cons => simp at h
  | cons kv es ih =>
    intro ms i h hk
    cases ms with
    | nil => simp at h
    | cons m ms =>
      have hm := hk 0 kv m rfl rfl
      simp only [List.map_cons, Instr.findNow, entryOf, hm]
      cases hs : Instr.sameNow kind k kv.1 with
      | none => simp
      | some b =>
        cases b with
        | true => simp
        | false =>
          have := ih ms (i + 1) (by simpa using h) (fun j a b ha hb => hk (j + 1) a b (by simpa using ha) (by simpa using hb))
          simp only
          revert this
          cases hf : Instr.findNow kind k (es.map entryOf) (i + 1) with
          | none => exact fun h => h
          | some o =>
            cases o with
            | none => exact fun h => h
            | some p =>
              obtain ⟨j, v⟩ := p
              rintro ⟨q, m', rfl, h1, h2⟩
              exact ⟨q + 1, m', by omega, by simpa using h1, h2⟩

theorem pureRun_bind {P : Program} {α β : Type} (s : Sem α) (f : α → Sem β) : pureRun P (s >>= f) = (pureRun P s).bind fun a => pureRun P (f a) := by
  show pureRun P (s.bind f) = _
  induction s with
  | pure a => rfl
  | program k ih => simp only [Sem.bind, pureRun]; exact ih P
  | mark m k ih => simp only [Sem.bind, pureRun]; exact ih
  | _ => simp [Sem.bind, pureRun]

theorem findAsking_congr {P : Program} {w : World} {kt : TypeId} {k : Value} : ∀ (es : List (Value × Value)) (ms : List MapEntry) (i : Nat), es.length = ms.length → (∀ (j : Nat) (kv : Value × Value) (m : MapEntry), es[j]? = some kv → ms[j]? = some m → m.key = kv.1) →
    ∀ o, pureRun P (Instr.findAsking kt k (es.map entryOf) i) = some o →
    match o with
    | some (j, _) => ∃ q m, j = i + q ∧ ms[q]? = some m ∧ (Instr.findAsking kt k ms i).run P w = .ok (some (j, m.val)) w
    | none => (Instr.findAsking kt k ms i).run P w = .ok none w := by
  intro es
  induction es with
  | nil => intro ms i h _ o ho; cases ms with
    | nil => cases ho; rfl
    | cons => simp at h
  | cons kv es ih =>
    intro ms i h hk o ho
    cases ms with
    | nil => simp at h
    | cons m ms =>
      have hm := hk 0 kv m rfl rfl
      simp only [List.map_cons, Instr.findAsking, entryOf, pureRun_bind] at ho
      cases he : pureRun P (Op.equal kt k kv.1) with
      | none => simp [he] at ho
      | some b =>
        have hr := pureRun_run he w
        simp only [he, Option.bind_some] at ho
        simp only [Instr.findAsking, hm, Sem.run_bind, hr, Result.andThen_ok]
        cases b with
        | true => simp only [if_true] at ho ⊢; cases ho; exact ⟨0, m, rfl, rfl, rfl⟩
        | false =>
          simp only [Bool.false_eq_true, if_false] at ho ⊢
          have := ih ms (i + 1) (by simpa using h) (fun j a b ha hb => hk (j + 1) a b (by simpa using ha) (by simpa using hb)) o ho
          revert this
          cases o with
          | none => exact fun h => h
          | some p =>
            obtain ⟨j, v⟩ := p
            rintro ⟨q, m', rfl, h1, h2⟩
            exact ⟨q + 1, m', by omega, by simpa using h1, h2⟩

/-- Where a key stands; none: it can't be said; some none: nowhere. -/
def rfind (P : Program) (kt : TypeId) (k : Value) (es : List (Value × Value)) : Option (Option Nat) :=
  if scal 8 k && keysScal es then
    match pureRun P (Instr.checkKey es.isEmpty 10000 kt k), pureRun P (Instr.findKey kt k (es.map entryOf)) with
    | some _, some (some (j, _)) => some (some j)
    | some _, some none => some none
    | _, _ => none
  else none

theorem rfind_ok {P : Program} {r : Rho} {w : World} {kt : TypeId} {k k' : Value} (hk : VR r k k') {es : List (Value × Value)} {ms : Array MapEntry} (hlen : es.length = ms.size)
    (hes : ∀ (i : Nat) (kv : Value × Value) (m : MapEntry), es[i]? = some kv → ms[i]? = some m → VR r kv.1 m.key ∧ VR r kv.2 m.val) {o : Option Nat} (he : rfind P kt k es = some o) :
    k' = k ∧ (Instr.checkKey ms.isEmpty 10000 kt k').run P w = .ok () w ∧
    match o with
    | some j => ∃ m, ms[j]? = some m ∧ (Instr.findKey kt k' ms.toList).run P w = .ok (some (j, m.val)) w
    | none => (Instr.findKey kt k' ms.toList).run P w = .ok none w := by
  unfold rfind at he
  split at he
  case isFalse => cases he
  case isTrue hs =>
    simp only [Bool.and_eq_true] at hs
    have hkk := scal_eq 8 k k' hs.1 hk
    subst hkk
    have hempty : ms.isEmpty = es.isEmpty := by
      cases es with
      | nil => simp at hlen; simp [Array.isEmpty, ← hlen]
      | cons => simp at hlen; simp [Array.isEmpty, ← hlen]
    have hkeys : ∀ (j : Nat) (kv : Value × Value) (m : MapEntry), es[j]? = some kv → ms.toList[j]? = some m → m.key = kv.1 := fun j kv m a b =>
      scal_eq 8 _ _ (List.all_eq_true.1 hs.2 kv (List.mem_of_getElem? a)) (hes j kv m a (by simpa using b)).1
    have hl : es.length = ms.toList.length := by simpa using hlen
    have main : ∀ o', pureRun P (Instr.findKey kt k' (es.map entryOf)) = some o' →
        match o' with
        | some (j, _) => ∃ m, ms[j]? = some m ∧ (Instr.findKey kt k' ms.toList).run P w = .ok (some (j, m.val)) w
        | none => (Instr.findKey kt k' ms.toList).run P w = .ok none w := by
      intro o' ho
      simp only [Instr.findKey, pureRun_bind] at ho
      cases hu : pureRun P (underlying kt) with
      | none => simp [hu] at ho
      | some d =>
        have hur := pureRun_run hu w
        simp only [hu, Option.bind_some] at ho
        have hn := findNow_congr (kind := d) (k := k') es ms.toList 0 hl hkeys
        simp only [Instr.findKey, Sem.run_bind, hur, Result.andThen_ok]
        revert hn ho
        cases hf : Instr.findNow d k' (es.map entryOf) 0 with
        | none =>
          intro ho hn
          rw [hn]
          simp only at ho ⊢
          have := findAsking_congr (P := P) (w := w) es ms.toList 0 hl hkeys o' ho
          revert this
          cases o' with
          | none => exact fun h => h
          | some p =>
            obtain ⟨j, v⟩ := p
            rintro ⟨q, m, rfl, h1, h2⟩
            rw [Nat.zero_add] at h2 ⊢
            exact ⟨m, by simpa using h1, h2⟩
        | some fo =>
          cases fo with
          | none => intro ho hn; cases ho; rw [hn]; rfl
          | some p =>
            obtain ⟨j, v⟩ := p
            rintro ho ⟨q, m, rfl, h1, h2⟩
            cases ho
            rw [h2, Nat.zero_add]
            exact ⟨m, by simpa using h1, rfl⟩
    refine ⟨rfl, ?_⟩
    split at he
    · rename_i u j v h1 h2
      cases he
      rw [hempty]
      exact ⟨pureRun_run h1 w, main _ h2⟩
    · rename_i u h1 h2
      cases he
      rw [hempty]
      exact ⟨pureRun_run h1 w, main _ h2⟩
    · cases he

def hmap (h : AH) (b : Nat) : Option (List (Value × Value)) :=
  match h[b]? with
  | some (.map es) => some es
  | _ => none

theorem hmap_ok {P : Program} {r : Rho} {h : AH} {w : World} (hr : HR P r h w.heap) {b : Nat} {es : List (Value × Value)} (hc : hmap h b = some es) {x : Loc} (hb : r b = some x) :
    ∃ ms clock, w.heap[x.blk]? = some (.map ms clock) ∧ es.length = ms.size ∧ ∀ (i : Nat) (kv : Value × Value) (m : MapEntry), es[i]? = some kv → ms[i]? = some m → VR r kv.1 m.key ∧ VR r kv.2 m.val := by
  unfold hmap at hc
  split at hc
  · rename_i es' hB
    cases hc
    obtain ⟨x, hx, ces, clock, h1, h2, h3, h4⟩ := hr.blk b _ hB rfl
    rw [hb] at hx; cases hx
    exact ⟨ces, clock, h1, h3, h4⟩
  · cases hc

theorem run_getMap {P : Program} {w : World} {g : Nat} {ms : Array MapEntry} {clock : Nat} (h : w.heap[g]? = some (.map ms clock)) : (getObj g).run P w = .ok (.map ms clock) w := by
  simp [getObj, Sem.run, h]

def rlookup (P : Program) (h : AH) (t : TypeId) (x k : Value) (ok : Bool) : Option RRes :=
  match P.underlying t with
  | some (.map kt e) =>
    match (match x with | .map none => some [] | .map (some b) => hmap h b | _ => none) with
    | some es =>
      match rfind P kt k es with
      | some (some j) => (es[j]?).map fun kv => (if ok then .tuple #[kv.2, .bool true] else kv.2, none)
      | some none => (zeroT P e).map fun z => (if ok then .tuple #[z, .bool false] else z, none)
      | none => none
    | none => none
  | _ => none

theorem rlookup_end {P : Program} {r : Rho} {w : World} {kt e : TypeId} {k k' : Value} (hk : VR r k k') {ok : Bool} {es : List (Value × Value)} {ms : Array MapEntry} (hlen : es.length = ms.size)
    (hent : ∀ (i : Nat) (kv : Value × Value) (m : MapEntry), es[i]? = some kv → ms[i]? = some m → VR r kv.1 m.key ∧ VR r kv.2 m.val) {res : RRes}
    (he : (match rfind P kt k es with
      | some (some j) => (es[j]?).map fun kv => (if ok then .tuple #[kv.2, .bool true] else kv.2, none)
      | some none => (zeroT P e).map fun z => (if ok then .tuple #[z, .bool false] else z, none)
      | none => none : Option RRes) = some res) :
    ∃ v', VR r res.1 v' ∧ res.2 = none ∧ (Instr.checkKey ms.isEmpty 10000 kt k').run P w = .ok () w ∧
      ((∃ j u, (Instr.findKey kt k' ms.toList).run P w = .ok (some (j, u)) w ∧ v' = if ok then .tuple #[u, .bool true] else u) ∨
       (∃ z, (Instr.findKey kt k' ms.toList).run P w = .ok none w ∧ (zeroValue e).run P w = .ok z w ∧ v' = if ok then .tuple #[z, .bool false] else z)) := by
  split at he
  · rename_i j hf
    obtain ⟨rfl, hck, mm, hm, hfk⟩ := rfind_ok (w := w) hk hlen hent hf
    cases hkv : es[j]? with
    | none => simp [hkv] at he
    | some kv =>
      simp only [hkv, Option.map_some, Option.some.injEq] at he; subst he
      have hv := (hent j kv mm hkv hm).2
      refine ⟨_, ?_, rfl, hck, .inl ⟨j, mm.val, hfk, rfl⟩⟩
      cases ok with
      | true => exact VR.tuple_l (.cons hv (.cons (.bool true) (.nil r)))
      | false => exact hv
  · rename_i hf
    obtain ⟨rfl, hck, hfk⟩ := rfind_ok (w := w) hk hlen hent hf
    cases hz : zeroT P e with
    | none => simp [hz] at he
    | some z =>
      simp only [hz, Option.map_some, Option.some.injEq] at he; subst he
      obtain ⟨hz1, hz2⟩ := run_zeroT hz w
      have hv : VR r z z := scal_refl 8 z hz2
      refine ⟨_, ?_, rfl, hck, .inr ⟨z, hfk, hz1, rfl⟩⟩
      cases ok with
      | true => exact VR.tuple_l (.cons hv (.cons (.bool false) (.nil r)))
      | false => exact hv
  · cases he

theorem rlookup_ok {P : Program} {r : Rho} {h : AH} {w : World} (hr : HR P r h w.heap) {t : TypeId} {x x' k k' : Value} (hx : VR r x x') (hk : VR r k k') {ok : Bool} (m : Nat) {res : RRes}
    (he : rlookup P h t x k ok = some res) : RdV P r w m (Instr.lookup t x' k' ok) res := by
  unfold rlookup at he
  split at he
  case h_2 => cases he
  case h_1 kt e hu =>
    split at he
    case h_2 => cases he
    case h_1 es hes =>
      obtain ⟨v, B⟩ := res
      split at hes
      · cases hx; cases hes
        obtain ⟨v', h1, rfl, h3, ⟨j, u, h4, rfl⟩ | ⟨z, h4, h5, rfl⟩⟩ := rlookup_end (ms := #[]) (w := w) hk rfl (fun i kv m a => by simp at a) he
        · exact ⟨_, w, by simp only [Instr.lookup, Sem.run_bind, run_underlying hu, Result.andThen_ok, h3, h4, Sem.run_pure], .refl w, h1⟩
        · exact ⟨_, w, by simp only [Instr.lookup, Sem.run_bind, run_underlying hu, Result.andThen_ok, h3, h4, h5, Sem.run_pure], .refl w, h1⟩
      · obtain ⟨g, hb, _, rfl⟩ := hx.map_inv
        obtain ⟨ms, clock, g1, g2, g3⟩ := hmap_ok hr hes hb
        obtain ⟨v', h1, rfl, h3, ⟨j, u, h4, rfl⟩ | ⟨z, h4, h5, rfl⟩⟩ := rlookup_end (w := w) hk g2 g3 he
        · exact ⟨_, w, by simp only [Instr.lookup, Sem.run_bind, run_underlying hu, Result.andThen_ok, run_getMap g1, h3, h4, Sem.run_pure], .refl w, h1⟩
        · exact ⟨_, w, by simp only [Instr.lookup, Sem.run_bind, run_underlying hu, Result.andThen_ok, run_getMap g1, h3, h4, h5, Sem.run_pure], .refl w, h1⟩
      · cases hes

end Go.Eng
