/- The engine, part 7: operations that write. -/
import Derived.Test.YtoojhjhamhkmjaaLE6
import Derived.Deep.AppendSrc
set_option linter.unusedVariables false
set_option linter.unusedSimpArgs false
namespace Go.Eng

/-- What an operation that hands a value on comes to. -/
def Ends (n : Next) (v : Value) : Prop := n = .value v ∨ (n = .skip ∧ v = undef)

def WrOk (P : Program) (r : Rho) (h : AH) (w : World) (s : Sem Next) (v : Value) (h' : AH) : Prop :=
  ∃ n v' w' r', s.run P w = .ok n w' ∧ Ends n v' ∧ Stp P r h w r' h' w' ∧ VR r' v v'

theorem undef_vr (r : Rho) : VR r undef undef := VR.tuple_l (.nil r)

/-! ### Stores -/

def wstore (P : Program) (h : AH) (t : TypeId) (a v : Value) : Option AH :=
  match a with
  | .pointer (some ⟨b, o, none⟩) => if sizeT P t = some v.cells.size then hstore h b o v.cells.toList else none
  | _ => none

theorem wstore_ok {P : Program} {r : Rho} {h h' : AH} {w : World} (hr : HR P r h w.heap) {t : TypeId} {a a' v v' : Value} (ha : VR r a a') (hv : VR r v v') (he : wstore P h t a v = some h') :
    ∃ w', (Instr.storeAt t a' v').run P w = .ok () w' ∧ Stp P r h w r h' w' := by
  unfold wstore at he
  split at he
  case h_2 => cases he
  case h_1 b o =>
    obtain ⟨x, hb, _, rfl⟩ := ha.ptr_inv
    split at he
    case isFalse => cases he
    case isTrue hs =>
      obtain ⟨w', h1, h2⟩ := hstore_ok (P := P) hr he hv.cells hb
      refine ⟨w', ?_, h2⟩
      have hsz : v'.cells.size = v.cells.size := by have := hv.cells.1; simpa using this.symm
      simp [Instr.storeAt, Instr.sureAddr, storeVar, run_sizeT hs, hsz, h1]

/-! ### Maps -/

theorem Stp.setMap {P : Program} {r : Rho} {h : AH} {w : World} (hr : HR P r h w.heap) {b : Nat} {es0 : List (Value × Value)} (hB : h[b]? = some (.map es0)) {x : Loc} (hb : r b = some x)
    {es : List (Value × Value)} {ms : Array MapEntry} {clock : Nat} (hlen : es.length = ms.size)
    (hent : ∀ (i : Nat) (kv : Value × Value) (m : MapEntry), es[i]? = some kv → ms[i]? = some m → VR r kv.1 m.key ∧ VR r kv.2 m.val) :
    Stp P r h w r (h.set b (.map es)) { w with heap := w.heap.setIfInBounds x.blk (.map ms clock) } := by
  have hbl : b < h.length := (List.getElem?_eq_some_iff.1 hB).1
  have hxl := (hr.dom b x hb).2
  have hget : ∀ c, (h.set b (.map es))[c]? = if c = b then some (.map es) else h[c]? := fun c => by
    rw [List.getElem?_set]
    by_cases e : b = c
    · subst e; simp [hbl]
    · simp [e, Ne.symm e]
  have hW : ∀ k, (w.heap.setIfInBounds x.blk (.map ms clock))[k]? = if k = x.blk then some (.map ms clock) else w.heap[k]? := fun k => by
    rw [Array.getElem?_setIfInBounds]
    by_cases e : x.blk = k
    · subst e; simp [hxl]
    · simp [e, Ne.symm e]
  have hx0 : x.off = 0 := by
    obtain ⟨y, hy, ces, cl, _, h0, _⟩ := hr.blk b _ hB rfl
    rw [hb] at hy; cases hy; exact h0
  have hother : ∀ c C y, h[c]? = some C → C.live = true → r c = some y → y.blk = x.blk → c = b := fun c C y h1 h2 h3 h4 => by
    by_cases e : c = b
    · exact e
    · obtain ⟨_, _, _, _, _, _, _, e1, _⟩ := hr.sep b c _ C x y hB h1 (Ne.symm e) rfl h2 hb h3 h4.symm
      cases e1
  refine ⟨.refl r, ⟨fun c y hc => ?_, fun c C hC hl => ?_, fun c c' C C' y y' h1 h2 hne hw hl h3 h4 heq => ?_⟩, ⟨rfl, rfl, rfl, by simp, fun k hk hn => ?_⟩, fun c C y h1 h2 h3 h4 => ?_, by simp, fun c hc => ?_⟩
  · have := hr.dom c y hc; simpa using this
  · rw [hget] at hC
    by_cases e : c = b
    · subst e; simp at hC; subst hC
      refine ⟨x, hb, ms, clock, ?_, hx0, hlen, hent⟩
      rw [hW]; simp
    · simp [e] at hC
      obtain ⟨y, hy, hbo⟩ := hr.blk c C hC hl
      refine ⟨y, hy, ?_⟩
      rw [hW, if_neg (fun k => e (hother c C y hC hl hy k))]
      exact hbo
  · rw [hget] at h1 h2
    by_cases e : c = b
    · subst e
      have e' : c' ≠ c := Ne.symm hne
      simp [e'] at h2
      rw [hb] at h3; cases h3
      exact absurd (hother c' C' y' h2 hl h4 heq.symm) e'
    · simp [e] at h1
      by_cases e' : c' = b
      · subst e'
        rw [hb] at h4; cases h4
        exact absurd (hother c C y h1 (Blk.live_of_wr hw) h3 heq) e
      · simp [e'] at h2
        exact hr.sep c c' C C' y y' h1 h2 hne hw hl h3 h4 heq
  · show (w.heap.setIfInBounds x.blk (.map ms clock))[k]? = w.heap[k]?
    rw [hW, if_neg (fun e => hn ⟨b, _, x, hB, rfl, hb, e.symm⟩)]
  · rw [hget] at h1
    by_cases e : c = b
    · subst e; simp at h1; subst h1; exact ⟨c, _, y, hB, rfl, h3, rfl, fun _ => rfl⟩
    · simp [e] at h1; exact ⟨c, C, y, h1, h2, h3, rfl, id⟩
  · rw [hget, if_neg (fun e => by rw [e, hB] at hc; cases hc)]; exact hc

def wmapUpdate (P : Program) (h : AH) (t : TypeId) (m k v : Value) : Option AH :=
  match P.underlying t, m with
  | some (.map kt _), .map (some b) =>
    match hmap h b with
    | some es =>
      match rfind P kt k es, pureRun P (Instr.checkKey false 10000 kt k) with
      | some (some j), some _ => match es[j]? with
        | some kv => if Instr.sameBits 10000 kv.1 k then some (h.set b (.map (es.set j (k, v)))) else none
        | none => none
      | some none, some _ => some (h.set b (.map (es ++ [(k, v)])))
      | _, _ => none
    | none => none
  | _, _ => none

theorem run_setMap {P : Program} {w : World} {g : Nat} {ms ms' : Array MapEntry} {cl cl' : Nat} (h : w.heap[g]? = some (.map ms cl)) :
    (setObj g (.map ms' cl')).run P w = .ok () { w with heap := w.heap.setIfInBounds g (.map ms' cl') } := by
  simp [setObj, Sem.run, h]

theorem hmap_blk {h : AH} {b : Nat} {es : List (Value × Value)} (hc : hmap h b = some es) : h[b]? = some (.map es) := by
  unfold hmap at hc
  split at hc
  · rename_i h1; cases hc; exact h1
  · cases hc

theorem wmapUpdate_ok {P : Program} {r : Rho} {h h' : AH} {w : World} (hr : HR P r h w.heap) {t : TypeId} {m m' k k' v v' : Value} (hm : VR r m m') (hk : VR r k k') (hv : VR r v v') (he : wmapUpdate P h t m k v = some h') :
    ∃ w', (Instr.mapUpdate t m' k' v').run P w = .ok () w' ∧ Stp P r h w r h' w' := by
  unfold wmapUpdate at he
  split at he
  case h_2 => cases he
  case h_1 kt e b hu =>
    obtain ⟨x, hb, _, rfl⟩ := hm.map_inv
    split at he
    case h_2 => cases he
    case h_1 es hes =>
      obtain ⟨ms, clock, g1, g2, g3⟩ := hmap_ok hr hes hb
      have hB := hmap_blk hes
      split at he
      · rename_i j u hf hck
        obtain ⟨rfl, _, mm, hmm, hfk⟩ := rfind_ok (w := w) hk g2 g3 hf
        cases hkv : es[j]? with
        | none => simp [hkv] at he
        | some kv =>
          simp only [hkv] at he
          split at he
          case isFalse => cases he
          case isTrue hsame =>
            cases he
            have hjl : j < es.length := (List.getElem?_eq_some_iff.1 hkv).1
            have hjm : j < ms.size := (Array.getElem?_eq_some_iff.1 hmm).1
            have hkey : mm.key = kv.1 := by
              have := (g3 j kv mm hkv hmm).1
              unfold rfind at hf
              split at hf
              · rename_i hs
                simp only [Bool.and_eq_true] at hs
                exact scal_eq 8 _ _ (List.all_eq_true.1 hs.2 kv (List.mem_of_getElem? hkv)) this
              · cases hf
            have hst : (Instr.keyThatStays ((ms[j]?.map (·.key)).getD k') k').run P w = .ok k' w := by
              simp [hmm, hkey, Instr.keyThatStays, hsame]
            refine ⟨{ w with heap := w.heap.setIfInBounds x.blk (.map (ms.modify j fun e => { e with key := k', val := v' }) clock) }, ?_, ?_⟩
            · simp only [Instr.mapUpdate, Sem.run_bind, run_underlying hu, Result.andThen_ok, run_getMap g1, pureRun_run hck w, hfk, hst, run_setMap g1]
            · refine Stp.setMap hr hB hb (by simp [g2]) fun i q m1 h1 h2 => ?_
              rw [List.getElem?_set] at h1
              rw [Array.getElem?_modify] at h2
              by_cases e : j = i
              · subst e
                simp [hjl] at h1
                simp [hmm] at h2
                subst h1; subst h2
                exact ⟨hk, hv⟩
              · simp [e] at h1 h2
                exact g3 i q m1 h1 h2
      · rename_i u hf hck
        obtain ⟨rfl, _, hfk⟩ := rfind_ok (w := w) hk g2 g3 hf
        cases he
        refine ⟨{ w with heap := w.heap.setIfInBounds x.blk (.map (ms.push { key := k', val := v', born := clock }) (clock + 1)) }, ?_, ?_⟩
        · simp only [Instr.mapUpdate, Sem.run_bind, run_underlying hu, Result.andThen_ok, run_getMap g1, pureRun_run hck w, hfk, run_setMap g1]
        · refine Stp.setMap hr hB hb (by simp [g2]) fun i q m1 h1 h2 => ?_
          rw [Array.getElem?_push] at h2
          by_cases e : i = ms.size
          · subst e
            rw [List.getElem?_append_right (by omega)] at h1
            simp [g2] at h1
            simp at h2
            subst h1; subst h2
            exact ⟨hk, hv⟩
          · rw [if_neg e] at h2
            have : i < ms.size := (Array.getElem?_eq_some_iff.1 h2).1
            rw [List.getElem?_append_left (by omega)] at h1
            exact g3 i q m1 h1 h2
      · cases he

def wdelete (P : Program) (h : AH) (t : TypeId) (m k : Value) : Option AH :=
  match P.underlying t, m with
  | some (.map kt _), .map (some b) =>
    match hmap h b with
    | some es =>
      match rfind P kt k es with
      | some (some j) => some (h.set b (.map (es.eraseIdx j)))
      | some none => some (h.set b (.map es))
      | none => none
    | none => none
  | _, _ => none

theorem wdelete_ok {P : Program} {r : Rho} {h h' : AH} {w : World} (hr : HR P r h w.heap) {t ty : TypeId} {m m' k k' : Value} (hm : VR r m m') (hk : VR r k k') (he : wdelete P h t m k = some h') (ts : Array TypeId) (hts : ts[0]? = some t) :
    ∃ w', (Builtin.delete_ ts ty #[m', k']).run P w = .ok (.tuple #[]) w' ∧ Stp P r h w r h' w' := by
  unfold wdelete at he
  split at he
  case h_2 => cases he
  case h_1 kt e b hu =>
    obtain ⟨x, hb, _, rfl⟩ := hm.map_inv
    split at he
    case h_2 => cases he
    case h_1 es hes =>
      obtain ⟨ms, clock, g1, g2, g3⟩ := hmap_ok hr hes hb
      have hB := hmap_blk hes
      split at he
      · rename_i j hf
        obtain ⟨rfl, hck, mm, hmm, hfk⟩ := rfind_ok (w := w) hk g2 g3 hf
        cases he
        have hjm : j < ms.size := (Array.getElem?_eq_some_iff.1 hmm).1
        refine ⟨{ w with heap := w.heap.setIfInBounds x.blk (.map (ms.eraseIdxIfInBounds j) clock) }, ?_, ?_⟩
        · simp only [Builtin.delete_, hts, List.getElem?_toArray, List.getElem?_cons_zero, List.getElem?_cons_succ, Sem.run_bind, run_underlying hu, Result.andThen_ok, run_getMap g1, hck, hfk, run_setMap g1, Sem.run_pure]
        · have hal : (ms.eraseIdxIfInBounds j).toList = ms.toList.eraseIdx j := by simp [Array.eraseIdxIfInBounds, hjm]
          refine Stp.setMap hr hB hb ?_ fun i q m1 h1 h2 => ?_
          · have : (ms.eraseIdxIfInBounds j).size = (ms.toList.eraseIdx j).length := by rw [← hal, Array.length_toList]
            rw [this, List.length_eraseIdx, List.length_eraseIdx]
            simp [g2]
          · rw [← Array.getElem?_toList, hal] at h2
            rw [List.getElem?_eraseIdx] at h1 h2
            split at h1
            · rename_i hij; rw [if_pos hij] at h2; exact g3 i q m1 h1 (by simpa using h2)
            · rename_i hij; rw [if_neg hij] at h2; exact g3 (i + 1) q m1 h1 (by simpa using h2)
      · rename_i hf
        obtain ⟨rfl, hck, hfk⟩ := rfind_ok (w := w) hk g2 g3 hf
        cases he
        refine ⟨{ w with heap := w.heap.setIfInBounds x.blk (.map ms clock) }, ?_, Stp.setMap hr hB hb g2 g3⟩
        simp only [Builtin.delete_, hts, List.getElem?_toArray, List.getElem?_cons_zero, List.getElem?_cons_succ, Sem.run_bind, run_underlying hu, Result.andThen_ok, run_getMap g1, hck, hfk, run_setMap g1, Sem.run_pure]
      · cases he

end Go.Eng
