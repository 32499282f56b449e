import Derived.Test.YtaigopmaojaoeabGreatPk2
import Derived.Lib.UnsafeStr
import Derived.Deep.AppendSrc
set_option linter.unusedVariables false
set_option linter.unusedSimpArgs false
namespace Go.Eng
def methF (P : Program) (t : TypeId) (name : String) : Option FuncId :=
  match P.info? t with
  | some ti => match ti.methods.find? (·.name == name) with
    | some m => match m.path.toList, m.func with
      | [], some (f, ptr) => match P.underlying t with
        | some (.pointer _) => if ptr then some f else none
        | some _ => if ptr then none else some f
        | none => none
      | _, _ => none
    | none => none
  | none => none
theorem method_run {P : Program} {t : TypeId} {name : String} {g : FuncId} (h : methF P t name = some g) (n : Nat) (v : Value) (w : World) : (method (n + 1) t v name).run P w = .ok (g, v) w := by
  unfold methF at h
  split at h
  · rename_i ti hi
    split at h
    · rename_i m hm
      split at h
      · rename_i f ptr hp hf
        split at h
        · rename_i e hu
          cases ptr with
          | false => simp at h
          | true =>
            simp at h; subst h
            simp [method, typeInfo, hi, hm, hp, follow, hf, receiverAt, underlying, hu, Place.get]
        · rename_i d hne hu
          cases ptr with
          | true => simp at h
          | false =>
            simp at h; subst h
            cases d <;> first | (exact (hne _ rfl).elim) | (exact (hne _ hu).elim) | simp [method, typeInfo, hi, hm, hp, follow, hf, receiverAt, underlying, hu, Place.get]
        · cases h
      · cases h
    · cases h
  · cases h
theorem nilAhead_run {P : Program} {t : TypeId} {name : String} (h : (methF P t name).isSome = true) (n : Nat) (v : Value) (w : World) : (nilAhead (n + 1) t v name).run P w = .ok (some false) w := by
  obtain ⟨g, h⟩ := Option.isSome_iff_exists.1 h
  unfold methF at h
  split at h
  · rename_i ti hi
    split at h
    · rename_i m hm
      split at h
      · rename_i f ptr hp hf
        split at h
        · rename_i e hu
          cases ptr with
          | false => simp at h
          | true => simp [nilAhead, typeInfo, hi, hm, hp, followBlind, hf]
        · rename_i d hne hu
          cases ptr with
          | true => simp at h
          | false =>
            cases d <;> first | (exact (hne _ rfl).elim) | (exact (hne _ hu).elim) | simp [nilAhead, typeInfo, hi, hm, hp, followBlind, hf, underlying, hu]
        · cases h
      · cases h
    · cases h
  · cases h
def notSel : Op -> Bool
  | .select _ _ => false
  | _ => true
def okScal : Option Value -> Bool
  | some v => scal 8 v
  | none => false
def rscal (P : Program) (g : Operand -> Option Value) (o : Oper) : Option RRes :=
  if notSel o.op && o.op.operands.toList.all (fun x => okScal (g x)) then
    match pureRun P (execOp (fun x => (g x).getD undef) o) with
    | some (.value v) => if scal 8 v then some (v, none) else none
    | _ => none
  else none
theorem rscal_ok {P : Program} {r : Rho} {g : Operand -> Option Value} {a : Act} (her : GR r g a) {w : World} {o : Oper} (m : Nat) {res : RRes} (he : rscal P g o = some res) :
    RdOk P r w m (execOp a.eval o) res := by
  unfold rscal at he
  split at he
  case isFalse => cases he
  case isTrue hc =>
    simp only [Bool.and_eq_true] at hc
    obtain ⟨hsel, hall⟩ := hc
    split at he
    case h_2 => cases he
    case h_1 v hv =>
      split at he
      case isFalse => cases he
      case isTrue hs =>
        cases he
        have hcongr : execOp a.eval o = execOp (fun x => (g x).getD undef) o := by
          refine execOp_congr o (fun cs b heq => by rw [heq] at hsel; cases hsel) fun x hx => ?_
          have h1 := List.all_eq_true.1 hall x (by simpa using hx)
          cases hxv : g x with
          | none => simp [okScal, hxv] at h1
          | some u =>
            simp only [okScal, hxv] at h1
            exact scal_eq 8 u _ h1 (her _ _ hxv)
        rw [hcongr]
        exact ⟨v, w, pureRun_run hv w, .refl w, scal_refl 8 v hs⟩
def rlen (P : Program) (h : AH) (t : TypeId) : Value -> Option RRes
  | .slice _ n _ => match P.underlying t with
    | some (.slice _) => some (.int .i64 n, none)
    | _ => none
  | .map (some b) => match P.underlying t, hmap h b with
    | some (.map _ _), some es => some (.int .i64 es.length, none)
    | _, _ => none
  | _ => none
theorem rlen_ok {P : Program} {r : Rho} {h : AH} {w : World} (hr : HR P r h w.heap) {t ty : TypeId} {v v' : Value} (hv : VR r v v') (m : Nat) {res : RRes} (he : rlen P h t v = some res) (ts : Array TypeId) (hts : ts[0]? = some t) :
    RdV P r w m (Builtin.len_ ts ty #[v']) res := by
  unfold rlen at he
  split at he
  · rename_i a n c
    split at he
    case h_2 => cases he
    case h_1 e hu =>
      cases he
      have : ∃ a' c', v' = .slice a' n c' := by
        cases a with
        | none => obtain ⟨rfl, rfl, rfl⟩ := hv.snil_inv; exact ⟨_, _, rfl⟩
        | some a =>
          rcases hv.slice_inv with ⟨x, c', _, _, rfl, _, _, _⟩ | ⟨rfl, rfl, a', rfl⟩
          · exact ⟨_, _, rfl⟩
          · exact ⟨_, _, rfl⟩
      obtain ⟨a', c', rfl⟩ := this
      exact ⟨_, w, by simp [Builtin.len_, hts, run_underlying hu]; rfl, .refl w, .int _ _⟩
  · rename_i b
    split at he
    case h_2 => cases he
    case h_1 k e es hu hm =>
      cases he
      obtain ⟨g, hb, _, rfl⟩ := hv.map_inv
      obtain ⟨ms, clock, g1, g2, g3⟩ := hmap_ok hr hm hb
      exact ⟨_, w, by simp only [Builtin.len_, hts, List.getElem?_toArray, List.getElem?_cons_zero, Sem.run_bind, run_underlying hu, Result.andThen_ok, run_getMap g1, Sem.run_pure]; rfl, .refl w, by rw [<- g2]; exact .int _ _⟩
  · cases he
def asBytes : List Value -> Option (List Int)
  | [] => some []
  | .int .u8 n :: l => (asBytes l).map (n :: ·)
  | _ => none
theorem asBytes_ok {r : Rho} : ∀ {l l' : List Value} {ns : List Int}, asBytes l = some ns -> VL r l l' -> l' = ns.map (Value.int .u8) := by
  intro l
  induction l with
  | nil => intro l' ns h k; cases h; rw [k.nil_left]; rfl
  | cons v l ih =>
    intro l' ns h k
    obtain ⟨v', m, rfl, k1, k2⟩ := k.head
    unfold asBytes at h
    split at h
    · rename_i e; cases e
    · rename_i n l2 e
      cases e
      cases hl : asBytes l with
      | none => simp [hl] at h
      | some ms => simp [hl] at h; subst h; rw [ih hl k2, k1.int_inv]; rfl
    · cases h
def pushAll (ns : List Int) : ByteArray := ns.foldl (fun r n => r.push (UInt8.ofNat n.toNat)) ByteArray.empty
def ruc (P : Program) (h : AH) (src dst : TypeId) : Option Addr -> Option RRes
  | none => match P.underlying src, P.underlying dst with
    | some (.pointer _), some .unsafePointer => some (.pointer none, none)
    | some .unsafePointer, some (.pointer _) => some (.pointer none, none)
    | _, _ => none
  | some ⟨b, o, none⟩ => match P.underlying src, P.underlying dst with
    | some (.pointer t), some .unsafePointer => match sizeT P t, hcell h b with
      | some (_ + 1), some cs => if o < cs.length then some (.pointer (some ⟨b, o, none⟩), none) else none
      | _, _ => none
    | some .unsafePointer, some (.pointer u) => match h[b]?, sizeT P u with
      | some (.cells true _ _ _ e cs), some (k + 1) => if o = 0 /\ e = u /\ bldT P e = true /\ k + 1 <= cs.length then some (.pointer (some ⟨b, o, none⟩), none) else none
      | _, _ => none
    | _, _ => none
  | _ => none
theorem liesAt_one {P : Program} {e : TypeId} {k count : Nat} (hs : sizeT P e = some (k + 1)) (hc : 1 <= count) : liesAt P P.depth e count 0 e 1 = true := by
  have h1 : P.cellsOf e = k + 1 := by
    unfold sizeT at hs
    cases hi : P.info? e with
    | none => simp [hi] at hs
    | some i => simp [hi] at hs; simp [Program.cellsOf, hi, hs]
  have hd : P.depth = (2 * (P.types.size + Made.depth) + 1) + 1 := rfl
  rw [hd]
  simp only [liesAt, Bool.or_eq_true]
  left
  rw [hd]
  simp [rowAt, h1, hc, sameLayout]
theorem ruc_ok {P : Program} {r : Rho} {h : AH} {w : World} (hr : HR P r h w.heap) {src dst : TypeId} {p : Option Addr} {v' : Value} (hv : VR r (.pointer p) v') (m : Nat) {res : RRes} (he : ruc P h src dst p = some res) :
    RdV P r w m (convert src dst v') res := by
  unfold ruc at he
  split at he
  · cases hv
    split at he
    · rename_i t hs hd
      cases he
      exact ⟨.pointer none, w, by simp [convert, run_underlying hs, run_underlying hd, Conv.unsafePointer], .refl w, .pnil⟩
    · rename_i t hs hd
      cases he
      exact ⟨.pointer none, w, by simp [convert, run_underlying hs, run_underlying hd, Conv.unsafePointer], .refl w, .pnil⟩
    · cases he
  · rename_i b o
    obtain ⟨x, hb, rfl⟩ := hv.ptr_inv
    split at he
    · rename_i t hs hd
      split at he
      · rename_i k cs hsz hc
        split at he
        · rename_i hlt
          cases he
          unfold hcell at hc
          split at hc
          · rename_i own solo grp del e cs' hB
            cases hc
            obtain ⟨x', hx, cur, e', fr, ho, _, _, hsz2, _⟩ := hr.blk b _ hB rfl
            rw [hb] at hx; cases hx
            have hsh : w.shape? x.blk = some (e', cur.size) := by simp [World.shape?, ho]
            refine ⟨.pointer (some ⟨x.blk, o + x.off, none⟩), w, ?_, .refl w, .ptr hb⟩
            have : ¬ cur.size <= o + x.off := by omega
            simp [convert, run_underlying hs, run_underlying hd, Conv.unsafePointer, Conv.seenAt, viewAt, hsh, cellsIn, this, run_sizeT hsz]
          · cases hc
        · cases he
      · cases he
    · rename_i u hs hd
      split at he
      · rename_i solo grp del e cs k hB hsz
        split at he
        · rename_i hlt
          obtain ⟨h0, h1, h2, h3⟩ := hlt
          cases he
          subst h0; subst h1
          obtain ⟨x', hx, cur, e', fr, ho, hown, _, hsz2, _⟩ := hr.blk b _ hB rfl
          rw [hb] at hx; cases hx
          obtain ⟨rfl, _, _, hoff⟩ := hown rfl
          have hsh : w.shape? x.blk = some (e', cur.size) := by simp [World.shape?, ho]
          have h4 : P.cellsOf e' = k + 1 := by
            unfold sizeT at hsz
            cases hi : P.info? e' with
            | none => simp [hi] at hsz
            | some i => simp [hi] at hsz; simp [Program.cellsOf, hi, hsz]
          have hl := liesAt_one (P := P) (count := cur.size / P.cellsOf e') hsz (by rw [h4]; exact (Nat.one_le_div_iff (by omega)).2 (by omega))
          refine ⟨.pointer (some ⟨x.blk, 0 + x.off, none⟩), w, ?_, .refl w, .ptr hb⟩
          rw [hoff h2]
          simp [convert, run_underlying hs, run_underlying hd, Conv.unsafePointer, Conv.seenAt, viewAt, hsh, variablesAt, hl, run_sizeT hsz]
        · cases he
      · cases he
    · cases he
  · cases he
def rconvert (P : Program) (h : AH) (m : Nat) (src dst : TypeId) : Value -> Option RRes
  | .slice (some ⟨b, o, none⟩) n c =>
    match P.underlying src, P.underlying dst with
    | some (.slice e), some .string =>
      match P.underlying e with
      | some (.int .u8) =>
        if n = 0 then some (.string ByteArray.empty, none) else
        match hcell h b with
        | some cs => if o + n <= cs.length then (asBytes ((cs.drop o).take n)).map fun ns => (.string (pushAll ns), none) else none
        | none => none
      | _ => none
    | _, _ => none
  | .string s =>
    match P.underlying src, P.underlying dst with
    | some _, some (.slice e) =>
      match P.underlying e, sizeT P e with
      | some (.int .u8), some 1 => some (.slice (some ⟨m, 0, none⟩) s.size s.size, some (.cells false true m 0 e (s.data.toList.map fun b => Value.int .u8 b.toNat)))
      | _, _ => none
    | _, _ => none
  | .pointer p => ruc P h src dst p
  | _ => none
theorem grownCap_ge (w : World) (need old : Nat) (e : TypeId) : need <= grownCap w need old e := by
  exact Nat.le_add_right _ _
theorem rconvert_ok {P : Program} {r : Rho} {h : AH} {w : World} (hr : HR P r h w.heap) {src dst : TypeId} {v v' : Value} (hv : VR r v v') {m : Nat} (hm : r m = none) {res : RRes} (he : rconvert P h m src dst v = some res) :
    RdV P r w m (convert src dst v') res := by
  unfold rconvert at he
  split at he
  case h_1 b o n c =>
    split at he
    case h_2 => cases he
    case h_1 e hs hd =>
      split at he
      case h_2 => cases he
      case h_1 hu =>
        split at he
        case isTrue h0 =>
          cases he
          subst h0
          have : ∃ a c', v' = .slice (some a) 0 c' := by
            rcases hv.slice_inv with ⟨x, c', _, _, rfl, _, _, _⟩ | ⟨_, rfl, a', rfl⟩
            · exact ⟨_, _, rfl⟩
            · exact ⟨_, _, rfl⟩
          obtain ⟨a, c', rfl⟩ := this
          refine ⟨_, w, ?_, .refl w, .string _⟩
          rw [run_convert_bytes_string w src dst e (some a) 0 c' hs hu hd, run_bytesToString (ns := []) w a 0 c' (by simp [loadCells, loadCellsFrom])]
          rfl
        case isFalse h0 =>
          split at he
          case h_2 => cases he
          case h_1 cs hc =>
            split at he
            case isFalse => cases he
            case isTrue hl =>
              cases hns : asBytes ((cs.drop o).take n) with
              | none => simp [hns] at he
              | some ns =>
                simp only [hns, Option.map_some, Option.some.injEq] at he; subst he
                rcases hv.slice_inv with ⟨⟨g, d, N, S⟩, c', hb, _, rfl, _, _, _⟩ | ⟨rfl, _, _⟩
                · obtain ⟨vs, hvl, hcs⟩ := hcell_ok hr hc hb
                  have hlen : ((vs.drop o).take n).length = n := by have := hvl.1; simp; omega
                  have hl2 := loadCells_off (P := P) (w := w) (g := g) (o := o + d) (vs := (vs.drop o).take n) (fun j v' hj => by
                    rw [List.getElem?_take] at hj
                    split at hj
                    · rw [List.getElem?_drop] at hj
                      have := hcs _ _ hj
                      rw [show o + d + j = d + (o + j) by omega]; exact this
                    · cases hj)
                  rw [hlen, asBytes_ok hns ((hvl.drop o).take n)] at hl2
                  refine ⟨_, w, ?_, .refl w, .string _⟩
                  rw [run_convert_bytes_string w src dst e _ n c' hs hu hd]
                  exact run_bytesToString w _ n c' ns hl2
                · exact absurd rfl h0
  case h_2 s =>
    cases hv.string_inv
    split at he
    case h_2 => cases he
    case h_1 u e hs hd =>
      split at he
      case h_2 => cases he
      case h_1 hu hsz =>
        cases he
        have hrun := Lib.run_convert_string_bytes (P := P) w src dst e s hs hd hu
        refine ⟨_, _, .cells (Lib.bytesCells w e s) e ((Lib.bytesCells w e s).size, (Lib.bytesCells w e s).size + 1), ⟨w.heap.size, 0, (Lib.bytesCells w e s).size, 1⟩, hrun, rfl, rfl, rfl, ?_, rfl, ?_, rfl, rfl, ?_⟩
        · apply Array.ext_getElem?
          intro i
          rw [Array.getElem?_push]
          by_cases hi : i = w.heap.size
          · subst hi; rw [Lib.bytesWorld_at_new]; simp
          · rw [if_neg hi]
            by_cases hlt : i < w.heap.size
            · exact Lib.bytesWorld_at_old w e s i hlt
            · have hsz := Lib.bytesWorld_size w e s
              rw [Array.getElem?_eq_none (by omega), Array.getElem?_eq_none (by omega)]
        · refine ⟨_, _, _, rfl, fun h => (by cases h), hsz, ?_, fun i v v' a b => ?_⟩
          · simp [Lib.bytesCells]
          · simp only [Nat.zero_add] at b
            have hi : i < s.data.toList.length := by
              have := (List.getElem?_eq_some_iff.1 a).1; simpa using this
            have hi' : i < s.data.size := by simpa using hi
            rw [List.getElem?_map, List.getElem?_eq_getElem hi] at a
            cases a
            rw [Lib.bytesCells, Array.getElem?_append_left (by simpa using hi'), Array.getElem?_map, Array.getElem?_eq_getElem hi'] at b
            cases b
            exact .int _ _
        · exact VR.slice (o := 0) (Rho.upd_same _ _ _) (grownCap_ge w s.size 0 e) (Nat.le_refl _) (by have := grownCap_ge w s.size 0 e; simp [Lib.bytesCells]; have h2 : s.data.size = s.size := rfl; omega)
  case h_3 p => exact ruc_ok hr hv m he
  case h_4 => cases he
def rtypeAssert (P : Program) (asserted : TypeId) (ok : Bool) (x : Value) : Option RRes :=
  let holds (v : Value) : Option RRes := some (if ok then .tuple #[v, .bool true] else v, none)
  let fails : Option RRes := if ok then (zeroT P asserted).map fun z => (.tuple #[z, .bool false], none) else none
  match P.underlying asserted, x with
  | some (.interface _), .nilIface => fails
  | some (.interface want), .iface t v =>
    match P.info? t with
    | some i => match Instr.missingMethod want i.methods with
      | none => holds (.iface t v)
      | some _ => fails
    | none => none
  | some _, .nilIface => fails
  | some _, .iface t v => if t = asserted then holds v else fails
  | _, _ => none
theorem rtypeAssert_ok {P : Program} {r : Rho} {w : World} {xt asserted : TypeId} {ok : Bool} {x x' : Value} (hx : VR r x x') (m : Nat) {res : RRes} (he : rtypeAssert P asserted ok x = some res) :
    RdV P r w m (Instr.typeAssert x' xt asserted ok) res := by
  have hold : ∀ {v v' : Value}, VR r v v' -> RdV P r w m (pure (if ok then .tuple #[v', .bool true] else v')) (if ok then .tuple #[v, .bool true] else v, none) := by
    intro v v' h
    refine RdV.pure ?_
    cases ok with
    | true => exact VR.tuple_l (.cons h (.cons (.bool true) (.nil r)))
    | false => exact h
  have fail : ∀ {res : RRes} {s : Sem Value}, (if ok then (zeroT P asserted).map fun z => ((.tuple #[z, .bool false] : Value), (none : Option Blk)) else none) = some res -> RdV P r w m (if ok then (do pure (.tuple #[<- zeroValue asserted, .bool false])) else s) res := by
    intro res s h
    cases ok with
    | false => simp at h
    | true =>
      cases hz : zeroT P asserted with
      | none => simp [hz] at h
      | some z =>
        simp [hz] at h; subst h
        obtain ⟨h1, h2⟩ := run_zeroT hz w
        exact ⟨_, w, by simp [h1], .refl w, VR.tuple_l (.cons (scal_refl 8 z h2) (.cons (.bool false) (.nil r)))⟩
  have via : ∀ {d : TypeDesc} {s : Sem Value} {f : TypeDesc -> Sem Value} {res : RRes}, P.underlying asserted = some d -> f d = s -> RdV P r w m s res -> RdV P r w m (underlying asserted >>= f) res := by
    intro d s f res hu hf h
    obtain ⟨v, _ | B⟩ := res
    · obtain ⟨v', w', h1, h2⟩ := h
      exact ⟨v', w', by rw [Sem.run_bind, run_underlying hu, Result.andThen_ok, hf, h1], h2⟩
    · obtain ⟨v', w', o, x, h1, h2⟩ := h
      exact ⟨v', w', o, x, by rw [Sem.run_bind, run_underlying hu, Result.andThen_ok, hf, h1], h2⟩
  unfold rtypeAssert at he
  dsimp only at he
  split at he
  · rename_i u hu
    cases hx
    exact via hu rfl (fail he)
  · rename_i want t v hu
    obtain ⟨v', rfl, hv⟩ := hx.iface_inv
    split at he
    case h_2 => cases he
    case h_1 i hi =>
      split at he
      · rename_i hmm
        cases he
        refine via hu rfl ?_
        have := hold (VR.iface (t := t) hv)
        obtain ⟨a, b, c, d⟩ := this
        exact ⟨a, b, by simp [typeInfo, hi, hmm]; simpa using c, d⟩
      · rename_i s hmm
        refine via hu rfl ?_
        obtain ⟨vv, _ | B⟩ := res
        · obtain ⟨a, b, c, d⟩ := fail (s := runtimePanic (.typeAssertion none (some t) asserted s)) he
          exact ⟨a, b, by simp [typeInfo, hi, hmm]; simpa using c, d⟩
        · cases ok <;> simp at he
  · rename_i d hd hu
    cases hx
    refine via hu ?_ (fail (s := runtimePanic (.typeAssertion (some xt) none asserted "")) he)
    cases d <;> first | rfl | exact absurd rfl (hd _)
  · rename_i d t v hd hu
    obtain ⟨v', rfl, hv⟩ := hx.iface_inv
    split at he
    · rename_i ht
      cases he
      refine via hu (s := pure (if ok then .tuple #[v', .bool true] else v')) ?_ (hold hv)
      subst ht
      cases d <;> first | (simp; done) | exact absurd rfl (hd _)
    · rename_i ht
      refine via hu ?_ (fail (s := runtimePanic (.typeAssertion (some xt) (some t) asserted "")) he)
      cases d <;> first | (simp [ht]; done) | exact absurd rfl (hd _)
  · cases he
def orElse (a : Option RRes) (b : Option RRes) : Option RRes :=
  match a with
  | some x => some x
  | none => b
def plain (v : Option Value) : Option RRes := v.map fun x => (x, none)
def evo (g : Operand -> Option Value) : Option Operand -> Option (Option Value)
  | none => some none
  | some x => (g x).map some
def rsdata : Value -> Option RRes
  | .slice none 0 0 => some (.pointer none, none)
  | .slice (some ⟨b, o, none⟩) _ c => if c = 0 then none else some (.pointer (some ⟨b, o, none⟩), none)
  | _ => none
theorem rsdata_ok {P : Program} {r : Rho} {w : World} {v v' : Value} (hv : VR r v v') (m : Nat) {res : RRes} (he : rsdata v = some res) (ts : Array TypeId) (ty : TypeId) :
    RdV P r w m (Builtin.unsafeSliceData_ ts ty #[v']) res := by
  unfold rsdata at he
  split at he
  · cases he; cases hv
    exact ⟨.pointer none, w, Lib.run_unsafeSliceData_nil w ts ty 0 0, .refl w, .pnil⟩
  · split at he
    · cases he
    · rename_i hc
      cases he
      rcases hv.slice_inv with ⟨x, c', hb, _, rfl, h1, _, _⟩ | ⟨_, rfl, _⟩
      · exact ⟨_, w, Lib.run_unsafeSliceData_row w ts ty _ _ _ (by omega), .refl w, .ptr hb⟩
      · exact absurd rfl hc
  · cases he
def rcall (P : Program) (g : Operand -> Option Value) (h : AH) (o : Oper) (c : Call) : Option RRes :=
  match c.callee with
  | .builtin .len => match c.args.toList, c.argTypes.toList with
    | [x], [t] => orElse ((g x).bind (rlen P h t)) (rscal P g o)
    | _, _ => none
  | .builtin .min => rscal P g o
  | .builtin .max => rscal P g o
  | .builtin .cap => rscal P g o
  | .builtin .unsafeSliceData => match c.args.toList with
    | [x] => (g x).bind rsdata
    | _ => none
  | _ => none
def aread (P : Program) (g : Operand -> Option Value) (h : AH) (m : Nat) (o : Oper) : Option RRes :=
  match o.op with
  | .move x => plain (g x)
  | .assign x => plain (g x)
  | .pick c a b => match g c with
    | some (.bool true) => plain (g a)
    | some (.bool false) => plain (g b)
    | _ => none
  | .alloc t => ralloc P m t
  | .box t x => (g x).bind (rbox P m t)
  | .build t parts => (evp g parts.toList).bind (rbuild P t)
  | .buildSlice t len parts => (evp g parts.toList).bind (rbuildSlice P m t len)
  | .load t x => (g x).bind (rload P h t)
  | .nilCheck x => match g x with
    | some (.pointer (some a)) => some (.pointer (some a), none)
    | some (.func (.func f) a b) => some (.func (.func f) a b, none)
    | some (.func (.method nm) a b) => match a.toList with
      | .iface t _ :: _ => if (methF P t nm).isSome then some (.func (.method nm) a b, none) else none
      | _ => none
    | _ => none
  | .binOp op t x y _ => orElse (rscal P g o) (match g x, g y with
    | some u, some v => rcmp P op t u v
    | _, _ => none)
  | .unOp _ _ _ => rscal P g o
  | .convert src dst x => orElse ((g x).bind (rconvert P h m src dst)) (rscal P g o)
  | .makeInterface t x => (g x).bind (rmakeInterface P t)
  | .makeFunc fn first captured => match evs g first.toList, evs g captured.toList with
    | some f, some c => some (.func fn f.toArray c.toArray, none)
    | _, _ => none
  | .makeMap _ none => some (rmakeMap m)
  | .makeSlice t l c => match g l, g c with
    | some u, some v => rmakeSlice P m t u v
    | _, _ => none
  | .slice t x lo hi mx => orElse (match g x, evo g lo, evo g hi, evo g mx with
    | some v, some l, some hh, some k => rslice P h t v l hh k
    | _, _, _, _ => none) (rscal P g o)
  | .fieldAddr t x f => (g x).bind (rfieldAddr P t f)
  | .field t x f => (g x).bind (rfield P t f)
  | .indexAddr t x i => match g x, g i with
    | some u, some v => rindexAddr P t u v
    | _, _ => none
  | .index t x i => orElse (match g x, g i with
    | some u, some v => rindexAgg P t u v
    | _, _ => none) (rscal P g o)
  | .lookup t x k ok => match g x, g k with
    | some u, some v => rlookup P h t u v ok
    | _, _ => none
  | .typeAssert x _ asserted ok => (g x).bind (rtypeAssert P asserted ok)
  | .extract x i => (g x).bind (rextract i)
  | .call c => rcall P g h o c
  | _ => none
theorem orElse_some {a b : Option RRes} {res : RRes} (h : orElse a b = some res) : a = some res \/ b = some res := by
  unfold orElse at h; split at h
  · exact .inl h
  · exact .inr h
theorem plain_ok {P : Program} {r : Rho} {g : Operand -> Option Value} {a : Act} (her : GR r g a) {w : World} {x : Operand} (m : Nat) {res : RRes} (he : plain (g x) = some res) :
    RdOk P r w m (pure (.value (a.eval x))) res := by
  unfold plain at he
  cases hx : g x with
  | none => simp [hx] at he
  | some v =>
    simp [hx] at he; subst he
    exact ⟨_, w, rfl, .refl w, her _ _ hx⟩
theorem evo_ok {r : Rho} {g : Operand -> Option Value} {a : Act} (her : GR r g a) {x : Option Operand} {v : Option Value} (h : evo g x = some v) : VO r v (x.map a.eval) := by
  cases x with
  | none => cases h; trivial
  | some x =>
    simp only [evo] at h
    cases hx : g x with
    | none => simp [hx] at h
    | some u => simp [hx] at h; subst h; exact her _ _ hx
theorem aread_ok {P : Program} {r : Rho} {g : Operand -> Option Value} {a : Act} (her : GR r g a) {h : AH} {w : World} (hr : HR P r h w.heap) {m : Nat} (hm : r m = none) {o : Oper} {res : RRes}
    (he : aread P g h m o = some res) : RdOk P r w m (execOp a.eval o) res := by
  have bnd : ∀ {x : Operand} {f : Value -> Option RRes}, (g x).bind f = some res -> ∃ v, g x = some v /\ f v = some res := fun h => Option.bind_eq_some_iff.1 h
  obtain ⟨dst, op, type, pos, after, guard⟩ := o
  unfold aread at he
  dsimp only at he
  split at he
  case h_1 x => exact plain_ok her m he
  case h_2 x => exact plain_ok her m he
  case h_3 c x y =>
    split at he
    · rename_i hc
      have := (her _ _ hc).bool_inv
      have k := plain_ok (P := P) (w := w) her m he
      obtain ⟨v, _ | B⟩ := res
      · obtain ⟨v', w', h1, h2, h3⟩ := k
        exact ⟨v', w', by simp only [execOp, this]; simpa [asBool] using h1, h2, h3⟩
      · unfold plain at he; cases hx : g x <;> simp [hx] at he
    · rename_i hc
      have := (her _ _ hc).bool_inv
      have k := plain_ok (P := P) (w := w) her m he
      obtain ⟨v, _ | B⟩ := res
      · obtain ⟨v', w', h1, h2, h3⟩ := k
        exact ⟨v', w', by simp only [execOp, this]; simpa [asBool] using h1, h2, h3⟩
      · unfold plain at he; cases hx : g y <;> simp [hx] at he
    · cases he
  case h_4 t => show RdOk P r w m (nv (Instr.alloc t true (.tuple #[]))) res; exact (ralloc_ok hm he).value
  case h_5 t x => obtain ⟨v, h1, h2⟩ := bnd he; show RdOk P r w m (nv (Instr.box t (a.eval x))) res; exact (rbox_ok hm (her _ _ h1) h2).value
  case h_6 t parts =>
    obtain ⟨ps, h1, h2⟩ := Option.bind_eq_some_iff.1 he
    have := evp_ok her h1
    show RdOk P r w m (nv (Instr.build t (parts.map fun (i, x) => (i, a.eval x)))) res
    exact (rbuild_ok (by simpa using this) m h2).value
  case h_7 t len parts =>
    obtain ⟨ps, h1, h2⟩ := Option.bind_eq_some_iff.1 he
    have := evp_ok her h1
    have hp : PR r ps (parts.map fun (p : Nat × Operand) => (p.1, a.eval p.2)).toList := by simpa using this
    have key := (rbuildSlice_ok (w := w) hm hp h2).value
    simp only [execOp]
    exact key
  case h_8 t x => obtain ⟨v, h1, h2⟩ := bnd he; show RdOk P r w m (nv (Instr.loadAt t (a.eval x))) res; exact (rload_ok hr (her _ _ h1) m h2).value
  case h_9 x =>
    split at he
    · rename_i p hx
      cases he
      have hv := her _ _ hx
      obtain ⟨y, e, _⟩ := hv.some_ptr
      refine ⟨a.eval x, w, ?_, .refl w, hv⟩
      simp only [execOp]; rw [e]; rfl
    · rename_i f p q hx
      cases he
      have hv := her _ _ hx
      obtain ⟨f', c', e, _, _⟩ := hv.func_inv
      refine ⟨a.eval x, w, ?_, .refl w, hv⟩
      simp only [execOp]; rw [e]; rfl
    · rename_i nmm p q hx
      split at he
      · rename_i t v tl hp
        split at he
        · rename_i hmm
          cases he
          have hv := her _ _ hx
          obtain ⟨f', c', e, hf', _⟩ := hv.func_inv
          rw [hp] at hf'
          obtain ⟨u', hu', hvr⟩ : ∃ u', f'.toList[0]? = some u' /\ VR r (.iface t v) u' := by
            cases hl : f'.toList with
            | nil => rw [hl] at hf'; have := hf'.1; simp at this
            | cons u' l => rw [hl] at hf'; exact ⟨u', rfl, hf'.2 0 _ _ rfl rfl⟩
          obtain ⟨u2, rfl, _⟩ := hvr.iface_inv
          have h0 : f'[0]? = some (.iface t u2) := by rw [<- Array.getElem?_toList]; exact hu'
          refine ⟨a.eval x, w, ?_, .refl w, hv⟩
          simp only [execOp]; rw [e]
          simp only [h0]
          have hna : (nilAhead (P.types.size + Made.depth) t u2 nmm).run P w = .ok (some false) w := nilAhead_run hmm (P.types.size + 99) u2 w
          have hpp : Sem.run P program w = .ok P w := rfl
          simp only [Sem.run_bind, hpp, Result.andThen_ok, hna]
          simp
        · cases he
      · cases he
    · cases he
  case h_10 op t x y yt =>
    rcases orElse_some he with h1 | h1
    · exact rscal_ok her m h1
    · split at h1
      · rename_i u v hu hv
        show RdOk P r w m (nv (do eqGuard op t x y (a.eval x) (a.eval y); binOp op t (a.eval x) (a.eval y))) res
        exact (rcmp_ok (her _ _ hu) (her _ _ hv) m h1 x y).value
      · cases h1
  case h_11 => exact rscal_ok her m he
  case h_12 src dst x =>
    rcases orElse_some he with h1 | h1
    · obtain ⟨v, h2, h3⟩ := bnd h1; show RdOk P r w m (nv (convert src dst (a.eval x))) res; exact (rconvert_ok hr (her _ _ h2) hm h3).value
    · exact rscal_ok her m h1
  case h_13 t x => obtain ⟨v, h1, h2⟩ := bnd he; show RdOk P r w m (nv (Instr.makeInterface t (a.eval x))) res; exact (rmakeInterface_ok (her _ _ h1) h2).value
  case h_14 fn first captured =>
    split at he
    · rename_i f c hf hc
      cases he
      exact ⟨.func fn (first.map a.eval) (captured.map a.eval), w, rfl, .refl w, VR.func_l (by simpa using evs_ok her hf) (by simpa using evs_ok her hc)⟩
    · cases he
  case h_15 t => cases he; show RdOk P r w m (nv (Instr.makeMap t none)) _; exact (rmakeMap_ok hm).value
  case h_16 t l c =>
    split at he
    · rename_i u v hu hv
      show RdOk P r w m (nv (Instr.makeSlice t (a.eval l) (a.eval c))) res
      exact (rmakeSlice_ok hm (her _ _ hu) (her _ _ hv) he).value
    · cases he
  case h_17 t x lo hi mx =>
    rcases orElse_some he with h1 | h1
    · split at h1
      · rename_i v l h' k hv hl hh hk
        show RdOk P r w m (nv (Instr.sliceAt t (a.eval x) (lo.map a.eval) (hi.map a.eval) (mx.map a.eval))) res
        exact (rslice_ok hr (her _ _ hv) (evo_ok her hl) (evo_ok her hh) (evo_ok her hk) m h1).value
      · cases h1
    · exact rscal_ok her m h1
  case h_18 t x f => obtain ⟨v, h1, h2⟩ := bnd he; show RdOk P r w m (nv (Instr.fieldAt t (a.eval x) f)) res; exact (rfieldAddr_ok (her _ _ h1) m h2).value
  case h_19 t x f => obtain ⟨v, h1, h2⟩ := bnd he; show RdOk P r w m (nv (Instr.field t (a.eval x) f)) res; exact (rfield_ok (her _ _ h1) m h2).value
  case h_20 t x i =>
    split at he
    · rename_i u v hu hv
      show RdOk P r w m (nv (Instr.indexAt t (a.eval x) (a.eval i))) res
      exact (rindexAddr_ok (her _ _ hu) (her _ _ hv) m he).value
    · cases he
  case h_21 t x i =>
    rcases orElse_some he with h1 | h1
    · split at h1
      · rename_i u v hu hv
        show RdOk P r w m (nv (Instr.index t (a.eval x) (a.eval i))) res
        exact (rindexAgg_ok (her _ _ hu) (her _ _ hv) m h1).value
      · cases h1
    · exact rscal_ok her m h1
  case h_22 t x k ok =>
    split at he
    · rename_i u v hu hv
      show RdOk P r w m (nv (Instr.lookup t (a.eval x) (a.eval k) ok)) res
      exact (rlookup_ok hr (her _ _ hu) (her _ _ hv) m he).value
    · cases he
  case h_23 x xt asserted ok => obtain ⟨v, h1, h2⟩ := bnd he; show RdOk P r w m (nv (Instr.typeAssert (a.eval x) xt asserted ok)) res; exact (rtypeAssert_ok (her _ _ h1) m h2).value
  case h_24 x i => obtain ⟨v, h1, h2⟩ := bnd he; show RdOk P r w m (nv (Instr.extract (a.eval x) i)) res; exact (rextract_ok (her _ _ h1) m h2).value
  case h_25 c =>
    obtain ⟨callee, args, argTypes⟩ := c
    unfold rcall at he
    dsimp only at he
    split at he
    · split at he
      · rename_i x t hx ht
        have hx : args = #[x] := by rw [<- hx]
        have ht : argTypes = #[t] := by rw [<- ht]
        subst hx; subst ht
        rcases orElse_some he with h1 | h1
        · obtain ⟨v, h2, h3⟩ := bnd h1
          have e : execOp a.eval ⟨dst, .call ⟨.builtin .len, #[x], #[t]⟩, type, pos, after, guard⟩ = nv (Builtin.len_ #[t] type #[a.eval x]) := by
            simp [execOp, resolve, invoke, builtin, nv]
          rw [e]
          exact (rlen_ok (P := P) (ty := type) hr (her _ _ h2) m h3 #[t] rfl).value
        · exact rscal_ok her m h1
      · cases he
    · exact rscal_ok her m he
    · exact rscal_ok her m he
    · exact rscal_ok her m he
    · split at he
      · rename_i x hx
        have hx : args = #[x] := by rw [<- hx]
        subst hx
        obtain ⟨v, h2, h3⟩ := bnd he
        have e : execOp a.eval ⟨dst, .call ⟨.builtin .unsafeSliceData, #[x], argTypes⟩, type, pos, after, guard⟩ = nv (Builtin.unsafeSliceData_ argTypes type #[a.eval x]) := by
          simp [execOp, resolve, invoke, builtin, nv]
        rw [e]
        exact (rsdata_ok (her _ _ h2) m h3 argTypes type).value
      · cases he
    · cases he
  case h_26 => cases he
end Go.Eng

namespace Go.Eng
def Ends (n : Next) (v : Value) : Prop := n = .value v \/ (n = .skip /\ v = undef)
def WrOk (P : Program) (r : Rho) (h : AH) (w : World) (s : Sem Next) (v : Value) (h' : AH) : Prop :=
  ∃ n v' w' r', s.run P w = .ok n w' /\ Ends n v' /\ Stp P r h w r' h' w' /\ VR r' v v'
theorem undef_vr (r : Rho) : VR r undef undef := VR.tuple_l (.nil r)
def wstore (P : Program) (h : AH) (t : TypeId) (a v : Value) : Option AH :=
  match a with
  | .pointer (some ⟨b, o, none⟩) => if sizeT P t = some v.cells.size then hstore h b o v.cells.toList else none
  | _ => none
theorem wstore_ok {P : Program} {r : Rho} {h h' : AH} {w : World} (hr : HR P r h w.heap) {t : TypeId} {a a' v v' : Value} (ha : VR r a a') (hv : VR r v v') (he : wstore P h t a v = some h') :
    ∃ w', (Instr.storeAt t a' v').run P w = .ok () w' /\ Stp P r h w r h' w' := by
  unfold wstore at he
  split at he
  case h_2 => cases he
  case h_1 b o =>
    obtain ⟨x, hb, _, rfl⟩ := ha.ptr_inv
    split at he
    case isFalse => cases he
    case isTrue hs =>
      obtain ⟨w', h1, h2⟩ := hstore_ok (P := P) hr he hv.cells hb
      refine ⟨w', ?_, h2⟩
      have hsz : v'.cells.size = v.cells.size := by have := hv.cells.1; simpa using this.symm
      simp [Instr.storeAt, Instr.sureAddr, storeVar, run_sizeT hs, hsz, h1]
theorem Stp.setMap {P : Program} {r : Rho} {h : AH} {w : World} (hr : HR P r h w.heap) {b : Nat} {es0 : List (Value × Value)} (hB : h[b]? = some (.map es0)) {x : Loc} (hb : r b = some x)
    {es : List (Value × Value)} {ms : Array MapEntry} {clock : Nat} (hlen : es.length = ms.size)
    (hent : ∀ (i : Nat) (kv : Value × Value) (m : MapEntry), es[i]? = some kv -> ms[i]? = some m -> VR r kv.1 m.key /\ VR r kv.2 m.val) :
    Stp P r h w r (h.set b (.map es)) { w with heap := w.heap.setIfInBounds x.blk (.map ms clock) } := by
  have hbl : b < h.length := (List.getElem?_eq_some_iff.1 hB).1
  have hxl := (hr.dom b x hb).2
  have hget : ∀ c, (h.set b (.map es))[c]? = if c = b then some (.map es) else h[c]? := fun c => by
    rw [List.getElem?_set]
    by_cases e : b = c
    · subst e; simp [hbl]
    · simp [e, Ne.symm e]
  have hW : ∀ k, (w.heap.setIfInBounds x.blk (.map ms clock))[k]? = if k = x.blk then some (.map ms clock) else w.heap[k]? := fun k => by
    rw [Array.getElem?_setIfInBounds]
    by_cases e : x.blk = k
    · subst e; simp [hxl]
    · simp [e, Ne.symm e]
  have hx0 : x.off = 0 := by
    obtain ⟨y, hy, ces, cl, _, h0, _⟩ := hr.blk b _ hB rfl
    rw [hb] at hy; cases hy; exact h0
  have hother : ∀ c C y, h[c]? = some C -> C.live = true -> r c = some y -> y.blk = x.blk -> c = b := fun c C y h1 h2 h3 h4 => by
    by_cases e : c = b
    · exact e
    · obtain ⟨_, _, _, _, _, _, _, e1, _⟩ := hr.sep b c _ C x y hB h1 (Ne.symm e) rfl h2 hb h3 h4.symm
      cases e1
  refine ⟨.refl r, ⟨fun c y hc => ?_, fun c C hC hl => ?_, fun c c' C C' y y' h1 h2 hne hw hl h3 h4 heq => ?_, fun g cs hg => ?_, fun g c C y hg h1 hw h3 => ?_⟩, ⟨rfl, rfl, rfl, by simp, fun k hk hn => ?_⟩, fun c C y h1 h2 h3 h4 => ?_, by simp, fun c hc => ?_⟩
  · have := hr.dom c y hc; simpa using this
  · rw [hget] at hC
    by_cases e : c = b
    · subst e; simp at hC; subst hC
      refine ⟨x, hb, ms, clock, ?_, hx0, hlen, hent⟩
      rw [hW]; simp
    · simp [e] at hC
      obtain ⟨y, hy, hbo⟩ := hr.blk c C hC hl
      refine ⟨y, hy, ?_⟩
      rw [hW, if_neg (fun k => e (hother c C y hC hl hy k))]
      exact hbo
  · rw [hget] at h1 h2
    by_cases e : c = b
    · subst e
      have e' : c' ≠ c := Ne.symm hne
      simp [e'] at h2
      rw [hb] at h3; cases h3
      exact absurd (hother c' C' y' h2 hl h4 heq.symm) e'
    · simp [e] at h1
      by_cases e' : c' = b
      · subst e'
        rw [hb] at h4; cases h4
        exact absurd (hother c C y h1 (Blk.live_of_wr hw) h3 heq) e
      · simp [e'] at h2
        exact hr.sep c c' C C' y y' h1 h2 hne hw hl h3 h4 heq
  · obtain ⟨cur, e, fr, hc, hv⟩ := hr.lay g cs hg
    exact ⟨cur, e, fr, by rw [hW, if_neg fun e => hr.nwr g b _ x (by rw [hg]; rfl) hB rfl hb e.symm]; exact hc, hv⟩
  · rw [hget] at h1
    by_cases e : c = b
    · subst e; rw [hb] at h3; cases h3; exact hr.nwr g c _ x hg hB rfl hb
    · simp [e] at h1; exact hr.nwr g c C y hg h1 hw h3
  · show (w.heap.setIfInBounds x.blk (.map ms clock))[k]? = w.heap[k]?
    rw [hW, if_neg (fun e => hn ⟨b, _, x, hB, rfl, hb, e.symm⟩)]
  · rw [hget] at h1
    by_cases e : c = b
    · subst e; simp at h1; subst h1; exact ⟨c, _, y, hB, rfl, h3, rfl, fun _ => rfl⟩
    · simp [e] at h1; exact ⟨c, C, y, h1, h2, h3, rfl, id⟩
  · rw [hget, if_neg (fun e => by rw [e, hB] at hc; cases hc)]; exact hc
def wmapUpdate (P : Program) (h : AH) (t : TypeId) (m k v : Value) : Option AH :=
  match P.underlying t, m with
  | some (.map kt _), .map (some b) =>
    match hmap h b with
    | some es =>
      match rfind P kt k es, pureRun P (Instr.checkKey false 10000 kt k) with
      | some (some j), some _ => match es[j]? with
        | some kv => if Instr.sameBits 10000 kv.1 k then some (h.set b (.map (es.set j (k, v)))) else none
        | none => none
      | some none, some _ => some (h.set b (.map (es ++ [(k, v)])))
      | _, _ => none
    | none => none
  | _, _ => none
theorem run_setMap {P : Program} {w : World} {g : Nat} {ms ms' : Array MapEntry} {cl cl' : Nat} (h : w.heap[g]? = some (.map ms cl)) :
    (setObj g (.map ms' cl')).run P w = .ok () { w with heap := w.heap.setIfInBounds g (.map ms' cl') } := by
  simp [setObj, Sem.run, h]
theorem hmap_blk {h : AH} {b : Nat} {es : List (Value × Value)} (hc : hmap h b = some es) : h[b]? = some (.map es) := by
  unfold hmap at hc
  split at hc
  · rename_i h1; cases hc; exact h1
  · cases hc
theorem wmapUpdate_ok {P : Program} {r : Rho} {h h' : AH} {w : World} (hr : HR P r h w.heap) {t : TypeId} {m m' k k' v v' : Value} (hm : VR r m m') (hk : VR r k k') (hv : VR r v v') (he : wmapUpdate P h t m k v = some h') :
    ∃ w', (Instr.mapUpdate t m' k' v').run P w = .ok () w' /\ Stp P r h w r h' w' := by
  unfold wmapUpdate at he
  split at he
  case h_2 => cases he
  case h_1 kt e b hu =>
    obtain ⟨x, hb, _, rfl⟩ := hm.map_inv
    split at he
    case h_2 => cases he
    case h_1 es hes =>
      obtain ⟨ms, clock, g1, g2, g3⟩ := hmap_ok hr hes hb
      have hB := hmap_blk hes
      split at he
      · rename_i j u hf hck
        obtain ⟨rfl, _, mm, hmm, hfk⟩ := rfind_ok (w := w) hk g2 g3 hf
        cases hkv : es[j]? with
        | none => simp [hkv] at he
        | some kv =>
          simp only [hkv] at he
          split at he
          case isFalse => cases he
          case isTrue hsame =>
            cases he
            have hjl : j < es.length := (List.getElem?_eq_some_iff.1 hkv).1
            have hjm : j < ms.size := (Array.getElem?_eq_some_iff.1 hmm).1
            have hkey : mm.key = kv.1 := by
              have := (g3 j kv mm hkv hmm).1
              unfold rfind at hf
              split at hf
              · rename_i hs
                simp only [Bool.and_eq_true] at hs
                exact scal_eq 8 _ _ (List.all_eq_true.1 hs.2 kv (List.mem_of_getElem? hkv)) this
              · cases hf
            have hst : (Instr.keyThatStays ((ms[j]?.map (·.key)).getD k') k').run P w = .ok k' w := by
              simp [hmm, hkey, Instr.keyThatStays, hsame]
            refine ⟨{ w with heap := w.heap.setIfInBounds x.blk (.map (ms.modify j fun e => { e with key := k', val := v' }) clock) }, ?_, ?_⟩
            · simp only [Instr.mapUpdate, Sem.run_bind, run_underlying hu, Result.andThen_ok, run_getMap g1, pureRun_run hck w, hfk, hst, run_setMap g1]
            · refine Stp.setMap hr hB hb (by simp [g2]) fun i q m1 h1 h2 => ?_
              rw [List.getElem?_set] at h1
              rw [Array.getElem?_modify] at h2
              by_cases e : j = i
              · subst e
                simp [hjl] at h1
                simp [hmm] at h2
                subst h1; subst h2
                exact ⟨hk, hv⟩
              · simp [e] at h1 h2
                exact g3 i q m1 h1 h2
      · rename_i u hf hck
        obtain ⟨rfl, _, hfk⟩ := rfind_ok (w := w) hk g2 g3 hf
        cases he
        refine ⟨{ w with heap := w.heap.setIfInBounds x.blk (.map (ms.push { key := k', val := v', born := clock }) (clock + 1)) }, ?_, ?_⟩
        · simp only [Instr.mapUpdate, Sem.run_bind, run_underlying hu, Result.andThen_ok, run_getMap g1, pureRun_run hck w, hfk, run_setMap g1]
        · refine Stp.setMap hr hB hb (by simp [g2]) fun i q m1 h1 h2 => ?_
          rw [Array.getElem?_push] at h2
          by_cases e : i = ms.size
          · subst e
            rw [List.getElem?_append_right (by omega)] at h1
            simp [g2] at h1
            simp at h2
            subst h1; subst h2
            exact ⟨hk, hv⟩
          · rw [if_neg e] at h2
            have : i < ms.size := (Array.getElem?_eq_some_iff.1 h2).1
            rw [List.getElem?_append_left (by omega)] at h1
            exact g3 i q m1 h1 h2
      · cases he
def wdelete (P : Program) (h : AH) (t : TypeId) (m k : Value) : Option AH :=
  match P.underlying t, m with
  | some (.map kt _), .map (some b) =>
    match hmap h b with
    | some es =>
      match rfind P kt k es with
      | some (some j) => some (h.set b (.map (es.eraseIdx j)))
      | some none => some (h.set b (.map es))
      | none => none
    | none => none
  | _, _ => none
theorem wdelete_ok {P : Program} {r : Rho} {h h' : AH} {w : World} (hr : HR P r h w.heap) {t ty : TypeId} {m m' k k' : Value} (hm : VR r m m') (hk : VR r k k') (he : wdelete P h t m k = some h') (ts : Array TypeId) (hts : ts[0]? = some t) :
    ∃ w', (Builtin.delete_ ts ty #[m', k']).run P w = .ok (.tuple #[]) w' /\ Stp P r h w r h' w' := by
  unfold wdelete at he
  split at he
  case h_2 => cases he
  case h_1 kt e b hu =>
    obtain ⟨x, hb, _, rfl⟩ := hm.map_inv
    split at he
    case h_2 => cases he
    case h_1 es hes =>
      obtain ⟨ms, clock, g1, g2, g3⟩ := hmap_ok hr hes hb
      have hB := hmap_blk hes
      split at he
      · rename_i j hf
        obtain ⟨rfl, hck, mm, hmm, hfk⟩ := rfind_ok (w := w) hk g2 g3 hf
        cases he
        have hjm : j < ms.size := (Array.getElem?_eq_some_iff.1 hmm).1
        refine ⟨{ w with heap := w.heap.setIfInBounds x.blk (.map (ms.eraseIdxIfInBounds j) clock) }, ?_, ?_⟩
        · simp only [Builtin.delete_, hts, List.getElem?_toArray, List.getElem?_cons_zero, List.getElem?_cons_succ, Sem.run_bind, run_underlying hu, Result.andThen_ok, run_getMap g1, hck, hfk, run_setMap g1, Sem.run_pure]
        · have hal : (ms.eraseIdxIfInBounds j).toList = ms.toList.eraseIdx j := by simp [Array.eraseIdxIfInBounds, hjm]
          refine Stp.setMap hr hB hb ?_ fun i q m1 h1 h2 => ?_
          · have : (ms.eraseIdxIfInBounds j).size = (ms.toList.eraseIdx j).length := by rw [<- hal, Array.length_toList]
            rw [this, List.length_eraseIdx, List.length_eraseIdx]
            simp [g2]
          · rw [<- Array.getElem?_toList, hal] at h2
            rw [List.getElem?_eraseIdx] at h1 h2
            split at h1
            · rename_i hij; rw [if_pos hij] at h2; exact g3 i q m1 h1 (by simpa using h2)
            · rename_i hij; rw [if_neg hij] at h2; exact g3 (i + 1) q m1 h1 (by simpa using h2)
      · rename_i hf
        obtain ⟨rfl, hck, hfk⟩ := rfind_ok (w := w) hk g2 g3 hf
        cases he
        refine ⟨{ w with heap := w.heap.setIfInBounds x.blk (.map ms clock) }, ?_, Stp.setMap hr hB hb g2 g3⟩
        simp only [Builtin.delete_, hts, List.getElem?_toArray, List.getElem?_cons_zero, List.getElem?_cons_succ, Sem.run_bind, run_underlying hu, Result.andThen_ok, run_getMap g1, hck, hfk, run_setMap g1, Sem.run_pure]
      · cases he
end Go.Eng
