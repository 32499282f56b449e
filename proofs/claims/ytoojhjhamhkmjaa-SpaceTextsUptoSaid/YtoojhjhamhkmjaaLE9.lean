/- The engine, part 9: one operation; sequences of operations; code. -/
import Derived.Test.YtoojhjhamhkmjaaLE8
import Derived.Lib.AppendZeros
import Derived.LoopN
import Derived.Scope
set_option linter.unusedVariables false
set_option linter.unusedSimpArgs false
namespace Go.Eng

/-! ### clear, copy -/

def wclear (P : Program) (h : AH) (t : TypeId) : Value → Option AH
  | .slice none 0 0 => match P.underlying t with
    | some (.slice _) => some h
    | _ => none
  | .slice (some ⟨b, o, none⟩) n c => match P.underlying t with
    | some (.slice e) =>
      if n = 0 then some h else
      match zeroT P e with
      | some z => if (Builtin.zeroCells z.cells n).toList.all (scal 8) then hstore h b o (Builtin.zeroCells z.cells n).toList else none
      | none => none
    | _ => none
  | .map (some b) => match P.underlying t with
    | some (.map _ _) => match hmap h b with
      | some _ => some (h.set b (.map []))
      | none => none
    | _ => none
  | _ => none

theorem wclear_ok {P : Program} {r : Rho} {h h' : AH} {w : World} (hr : HR P r h w.heap) {t ty : TypeId} {v v' : Value} (hv : VR r v v') (he : wclear P h t v = some h') :
    ∃ w', (Builtin.clear_ #[t] ty #[v']).run P w = .ok (.tuple #[]) w' ∧ Stp P r h w r h' w' := by
  unfold wclear at he
  split at he
  · obtain ⟨_, _, rfl⟩ := hv.snil_inv
    split at he
    · rename_i e hu; cases he; exact ⟨w, by simp [Builtin.clear_, run_underlying hu], .refl hr⟩
    · cases he
  · rename_i b o n c
    split at he
    case h_2 => cases he
    case h_1 e hu =>
      split at he
      case isTrue h0 =>
        cases he; subst h0
        rcases hv.slice_inv with ⟨y, c', hb, _, rfl, _, _, _⟩ | ⟨_, rfl, a', rfl⟩
        · exact ⟨w, by simp [Builtin.clear_, run_underlying hu], .refl hr⟩
        · exact ⟨w, by simp [Builtin.clear_, run_underlying hu], .refl hr⟩
      case isFalse h0 =>
        split at he
        case h_2 => cases he
        case h_1 z hz =>
          split at he
          case isFalse => cases he
          case isTrue hall =>
            rcases hv.slice_inv with ⟨y, c', hb, _, rfl, _, _, _⟩ | ⟨h1, _, _⟩
            · obtain ⟨w', k1, k2⟩ := hstore_ok (P := P) hr he (all_refl (r := r) (fun v => scal_refl 8 v) hall) hb
              refine ⟨w', ?_, k2⟩
              obtain ⟨n, rfl⟩ : ∃ m, n = m + 1 := ⟨n - 1, by omega⟩
              simp [Builtin.clear_, run_underlying hu, (run_zeroT hz w).1, k1]
            · exact absurd h1 h0
  · rename_i b
    split at he
    case h_2 => cases he
    case h_1 kt e hu =>
      split at he
      case h_2 => cases he
      case h_1 es hes =>
        cases he
        obtain ⟨x, hb, _, rfl⟩ := hv.map_inv
        obtain ⟨ms, clock, g1, g2, g3⟩ := hmap_ok hr hes hb
        refine ⟨{ w with heap := w.heap.setIfInBounds x.blk (.map #[] clock) }, ?_, Stp.setMap hr (hmap_blk hes) hb rfl (fun i q m1 h1 => by simp at h1)⟩
        simp only [Builtin.clear_, List.getElem?_toArray, List.getElem?_cons_zero, Sem.run_bind, run_underlying hu, Result.andThen_ok, run_getMap g1, run_setMap g1, Sem.run_pure]
  · cases he

def wcopy (P : Program) (h : AH) (t tx : TypeId) (d s : Value) : Option (Value × AH) :=
  match P.underlying t with
  | some (.slice e) =>
    match sizeT P e with
    | some sz =>
      match rsrc P h sz tx s with
      | some (n, xs) =>
        match d with
        | .slice none 0 0 => some (.int .i64 0, h)
        | .slice (some ⟨b, o, none⟩) dn dc =>
          if n ≤ dn then
            if n = 0 then some (.int .i64 0, h) else (hstore h b o xs).map fun h' => (.int .i64 n, h')
          else none
        | _ => none
      | none => none
    | none => none
  | _ => none

theorem wcopy_ok {P : Program} {r : Rho} {h h' : AH} {w : World} (hr : HR P r h w.heap) {t tx ty : TypeId} {d d' s s' v : Value} (hd : VR r d d') (hs : VR r s s') (he : wcopy P h t tx d s = some (v, h')) :
    ∃ v' w', (Builtin.copy_ #[t, tx] ty #[d', s']).run P w = .ok v' w' ∧ Stp P r h w r h' w' ∧ VR r v v' := by
  unfold wcopy at he
  split at he
  case h_2 => cases he
  case h_1 e hu =>
    split at he
    case h_2 => cases he
    case h_1 sz hsz =>
      split at he
      case h_2 => cases he
      case h_1 n xs hsrc =>
        obtain ⟨xs', hsr, hvl, hxl, hone⟩ := rsrc_ok (w := w) hr hs hsrc
        split at he
        · obtain ⟨_, _, rfl⟩ := hd.snil_inv
          cases he
          have hz : ∃ cells, (Builtin.firstCells sz 0 s').run P w = .ok cells w := by
            cases s' <;> first
              | (rename_i a' n' c'; cases a' <;> exact ⟨_, by simp [Builtin.firstCells, loadCells, loadCellsFrom]; rfl⟩)
              | exact ⟨_, by simp [Builtin.firstCells]; rfl⟩
              | (exfalso; have := hsr.cells; simp [Builtin.firstCells] at this)
          obtain ⟨cells, hz⟩ := hz
          exact ⟨.int .i64 0, w, by simp [Builtin.copy_, run_underlying hu, run_sizeT hsz, hsr.len, hz]; rfl, .refl hr, .int _ _⟩
        · rename_i b o dn dc
          split at he
          case isFalse => cases he
          case isTrue hle =>
            have hmin : Nat.min n dn = n := Nat.min_eq_left hle
            have hmin' : ∀ k, k = n → Nat.min n k = n := by intro k hk; subst hk; exact Nat.min_self _
            split at he
            case isTrue h0 =>
              cases he; subst h0
              have hn : xs' = [] := by have := hsr.newsLen; simpa using this
              subst hn
              have : ∃ a c', d' = .slice (some a) dn c' := by
                rcases hd.slice_inv with ⟨y, c', hb, _, rfl, _, _, _⟩ | ⟨rfl, rfl, a', rfl⟩
                · exact ⟨_, _, rfl⟩
                · exact ⟨_, _, rfl⟩
              obtain ⟨a, c', rfl⟩ := this
              refine ⟨.int .i64 0, w, ?_, .refl hr, .int _ _⟩
              simp [Builtin.copy_, run_underlying hu, run_sizeT hsz, hsr.len, hsr.cells, storeCells]; rfl
            case isFalse h0 =>
              cases hst : hstore h b o xs with
              | none => simp [hst] at he
              | some h1 =>
                simp [hst] at he
                obtain ⟨rfl, rfl⟩ := he
                rcases hd.slice_inv with ⟨y, c', hb, _, rfl, _, _, _⟩ | ⟨rfl, _, _⟩
                · obtain ⟨w', k1, k2⟩ := hstore_ok (P := P) hr hst hvl hb
                  refine ⟨.int .i64 n, w', ?_, k2, .int _ _⟩
                  have hm : min n dn = n := hmin
                  simp [Builtin.copy_, run_underlying hu, run_sizeT hsz, hsr.len, hm, hsr.cells, k1]; rfl
                · omega
        · cases he

/-! ### An append of so many zeros to nothing -/

def happendZ (P : Program) (h : AH) (t tx : TypeId) (s x : Value) : Option (Value × AH) :=
  match s, x with
  | .slice none 0 0, .int k (.ofNat n) =>
    match P.underlying t, P.underlying tx with
    | some (.slice e), some (.int _) =>
      match P.info? e, zeroT P e with
      | some i, some z =>
        if i.zero = none then none else
        if 0 < n && decide (0 < i.size) && decide (z.cells.size = i.size) && decide (n ≤ 9223372036854775807) && decide (n * i.bytes ≤ 140737488355328) && (Builtin.zeroCells z.cells n).toList.all (scal 8) then
          some (.slice (some ⟨h.length, 0, none⟩) n n, h ++ [row e h.length (Builtin.zeroCells z.cells n).toList])
        else none
      | _, _ => none
    | _, _ => none
  | _, _ => none

theorem zeroT_info {P : Program} {e : TypeId} {i : TypeInfo} {z : Value} (hi : P.info? e = some i) (h : zeroT P e = some z) : i.zero = some z := by
  unfold zeroT at h
  rw [hi] at h
  split at h
  · rename_i i' e1
    cases e1
    split at h
    · rename_i z' hz
      split at h
      · cases h; exact hz
      · cases h
    · cases h
  · cases h

theorem happendZ_ok {P : Program} {r : Rho} {h h' : AH} {w : World} (hr : HR P r h w.heap) {t tx ty : TypeId} {s s' x x' v : Value} (hs : VR r s s') (hx : VR r x x') (he : happendZ P h t tx s x = some (v, h')) :
    ∃ v' w' r', (Builtin.append_ #[t, tx] ty #[s', x']).run P w = .ok v' w' ∧ Stp P r h w r' h' w' ∧ VR r' v v' := by
  unfold happendZ at he
  split at he
  case h_2 => cases he
  case h_1 k n =>
    obtain ⟨_, _, rfl⟩ := hs.snil_inv
    cases hx.int_inv
    split at he
    case h_2 => cases he
    case h_1 e kn hu htn =>
      split at he
      case h_2 => cases he
      case h_1 i z hi hzT =>
        split at he
        case isTrue => cases he
        case isFalse =>
          split at he
          case isFalse => cases he
          case isTrue hc =>
            cases he
            simp only [Bool.and_eq_true, decide_eq_true_eq] at hc
            obtain ⟨⟨⟨⟨⟨h0, h1⟩, h2⟩, h3⟩, h4⟩, h5⟩ := hc
            have hvl := all_refl (r := r) (fun v => scal_refl 8 v) h5
            obtain ⟨r', k1, k2⟩ := happend_new (w := w) hr hi h2 hvl (by rw [Array.length_toList, zeroCells_size, h2]) 0 true h.length 0
            exact ⟨_, _, r', Lib.run_append_nil_zeros w t tx ty e i z k kn hu htn hi (zeroT_info hi hzT) n h0 h1 (by omega) (by omega), by simpa [row] using k1, by simpa using k2⟩

/-! ### All that write -/

def awrite (P : Program) (keep : Bool) (g : Operand → Option Value) (h : AH) (o : Oper) : Option (Value × AH) :=
  match o.op with
  | .store t a x => match g a, g x with
    | some u, some v => (wstore P h t u v).map fun h' => (undef, h')
    | _, _ => none
  | .mapUpdate t m k x => match g m, g k, g x with
    | some u, some kv, some v => (wmapUpdate P h t u kv v).map fun h' => (undef, h')
    | _, _, _ => none
  | .insert t m k x => match g m, g k, g x with
    | some u, some kv, some v => (wmapUpdate P h t u kv v).map fun h' => (undef, h')
    | _, _, _ => none
  | .call c => match c.callee, c.args.toList, c.argTypes.toList with
    | .builtin .append, [s, x], [t, tx] => match g s, g x with
      | some u, some v => match happend P keep h t tx u v with
        | some x => some x
        | none => happendZ P h t tx u v
      | _, _ => none
    | .builtin .clear, [x], [t] => match g x with
      | some v => (wclear P h t v).map fun h' => (.tuple #[], h')
      | none => none
    | .builtin .delete, [m, k], t :: _ => match g m, g k with
      | some u, some v => (wdelete P h t u v).map fun h' => (.tuple #[], h')
      | _, _ => none
    | .builtin .copy, [d, s], [t, tx] => match g d, g s with
      | some u, some v => wcopy P h t tx u v
      | _, _ => none
    | _, _, _ => none
  | _ => none

theorem run_builtin {P : Program} {w w' : World} {a : Act} {c : Call} {b : Builtin} {v : Value} {dst : Option Tmp} {type : TypeId} {pos : String} {after : Array Edge} {guard : Option (Nat × Bool)}
    (hc : c.callee = .builtin b) {s : Sem Value} (hb : ∀ cs, builtin b c.argTypes type cs (c.args.map a.eval) = nv s) (hs : s.run P w = .ok v w') :
    (execOp a.eval ⟨dst, .call c, type, pos, after, guard⟩).run P w = .ok (.value v) w' := by
  simp only [execOp, resolve, hc, Sem.run_bind, Sem.run_pure, Result.andThen_ok, invoke]
  rw [hb, nv, Sem.run_bind, hs]
  rfl

theorem awrite_ok {P : Program} {keep : Bool} {r : Rho} {g : Operand → Option Value} {a : Act} (her : GR r g a) {h h' : AH} {w : World} (hr : HR P r h w.heap) {o : Oper} {v : Value}
    (he : awrite P keep g h o = some (v, h')) : WrOk P r h w (execOp a.eval o) v h' := by
  obtain ⟨dst, op, type, pos, after, guard⟩ := o
  unfold awrite at he
  dsimp only at he
  split at he
  case h_1 t x y =>
    split at he
    · rename_i u v1 hu hv
      cases hst : wstore P h t u v1 with
      | none => simp [hst] at he
      | some h1 =>
        simp [hst] at he; obtain ⟨rfl, rfl⟩ := he
        obtain ⟨w', k1, k2⟩ := wstore_ok hr (her _ _ hu) (her _ _ hv) hst
        exact ⟨.skip, undef, w', r, by simp [execOp, k1], .inr ⟨rfl, rfl⟩, k2, undef_vr r⟩
    · cases he
  case h_2 t m k x =>
    split at he
    · rename_i u kv v1 hu hk hv
      cases hst : wmapUpdate P h t u kv v1 with
      | none => simp [hst] at he
      | some h1 =>
        simp [hst] at he; obtain ⟨rfl, rfl⟩ := he
        obtain ⟨w', k1, k2⟩ := wmapUpdate_ok hr (her _ _ hu) (her _ _ hk) (her _ _ hv) hst
        exact ⟨.skip, undef, w', r, by simp [execOp, k1], .inr ⟨rfl, rfl⟩, k2, undef_vr r⟩
    · cases he
  case h_3 t m k x =>
    split at he
    · rename_i u kv v1 hu hk hv
      cases hst : wmapUpdate P h t u kv v1 with
      | none => simp [hst] at he
      | some h1 =>
        simp [hst] at he; obtain ⟨rfl, rfl⟩ := he
        obtain ⟨w', k1, k2⟩ := wmapUpdate_ok hr (her _ _ hu) (her _ _ hk) (her _ _ hv) hst
        exact ⟨.skip, undef, w', r, by simp [execOp, k1], .inr ⟨rfl, rfl⟩, k2, undef_vr r⟩
    · cases he
  case h_5 => cases he
  case h_4 c =>
    obtain ⟨callee, args, argTypes⟩ := c
    dsimp only at he
    split at he
    · rename_i s x t tx ha ht
      have ha : args = #[s, x] := by rw [← ha]
      have ht : argTypes = #[t, tx] := by rw [← ht]
      subst ha; subst ht
      split at he
      · rename_i u v1 hu hv
        have hap : ∃ v' w' r', (Builtin.append_ #[t, tx] type #[a.eval s, a.eval x]).run P w = .ok v' w' ∧ Stp P r h w r' h' w' ∧ VR r' v v' := by
          split at he
          · rename_i y hy
            cases he
            exact happend_ok (ty := type) hr (her _ _ hu) (her _ _ hv) hy
          · exact happendZ_ok (ty := type) hr (her _ _ hu) (her _ _ hv) he
        obtain ⟨v', w', r', k1, k2, k3⟩ := hap
        exact ⟨.value v', v', w', r', run_builtin (s := Builtin.append_ #[t, tx] type #[a.eval s, a.eval x]) rfl (fun _ => by simp [builtin, nv]) k1, .inl rfl, k2, k3⟩
      · cases he
    · rename_i x t ha ht
      have ha : args = #[x] := by rw [← ha]
      have ht : argTypes = #[t] := by rw [← ht]
      subst ha; subst ht
      split at he
      · rename_i v1 hv
        cases hst : wclear P h t v1 with
        | none => simp [hst] at he
        | some h1 =>
          simp [hst] at he; obtain ⟨rfl, rfl⟩ := he
          obtain ⟨w', k1, k2⟩ := wclear_ok (ty := type) hr (her _ _ hv) hst
          exact ⟨.value _, _, w', r, run_builtin (s := Builtin.clear_ #[t] type #[a.eval x]) rfl (fun _ => by simp [builtin, nv]) k1, .inl rfl, k2, undef_vr r⟩
      · cases he
    · rename_i m k t ts ha ht
      have ha : args = #[m, k] := by rw [← ha]
      subst ha
      split at he
      · rename_i u v1 hu hv
        cases hst : wdelete P h t u v1 with
        | none => simp [hst] at he
        | some h1 =>
          simp [hst] at he; obtain ⟨rfl, rfl⟩ := he
          obtain ⟨w', k1, k2⟩ := wdelete_ok (ty := type) hr (her _ _ hu) (her _ _ hv) hst argTypes (by rw [← Array.getElem?_toList, ht]; rfl)
          exact ⟨.value _, _, w', r, run_builtin (s := Builtin.delete_ argTypes type #[a.eval m, a.eval k]) rfl (fun _ => by simp [builtin, nv]) k1, .inl rfl, k2, undef_vr r⟩
      · cases he
    · rename_i d s t tx ha ht
      have ha : args = #[d, s] := by rw [← ha]
      have ht : argTypes = #[t, tx] := by rw [← ht]
      subst ha; subst ht
      split at he
      · rename_i u v1 hu hv
        obtain ⟨v', w', k1, k2, k3⟩ := wcopy_ok (ty := type) hr (her _ _ hu) (her _ _ hv) he
        exact ⟨.value v', v', w', r, run_builtin (s := Builtin.copy_ #[t, tx] type #[a.eval d, a.eval s]) rfl (fun _ => by simp [builtin, nv]) k1, .inl rfl, k2, k3⟩
      · cases he
    · cases he

end Go.Eng
