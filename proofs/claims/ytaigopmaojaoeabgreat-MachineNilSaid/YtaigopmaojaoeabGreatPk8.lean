import Derived.Test.YtaigopmaojaoeabGreatPk7
import Derived.Test.YtaigopmaojaoeabGreatProg
import Derived.KernelRfl
set_option linter.unusedVariables false
set_option linter.unusedSimpArgs false
namespace Go.Eng
structure SI where
  env : List Value
  h : AH
  pe : Option Code
  mr : Bool
  ys : List Tmp
abbrev RT := List Value -> AH -> Option (Option Code × AH)
abbrev HT := Option RT
def hookArgs (H : HT) (env : List Value) (ys : List Tmp) (o : Oper) : Option (Tmp × RT × List Operand) := match H, o.op with
  | some R, .call c => match c.callee with
    | .value (.tmp t') => if ys.contains t' && (env[t']?).isSome then some (t', R, c.args.toList) else none
    | _ => none
  | _, _ => none
def mvY (env : List Value) (ys : List Tmp) (o : Oper) : Option (Tmp × Tmp) := match o.op with
  | .move (.tmp t) => if ys.contains t && (env[t]?).isSome then o.dst.map fun d => (t, d) else none
  | _ => none
def notD (o : Oper) : Bool := match o.op with
  | .defer _ => false
  | _ => true
def okOp (ys : List Tmp) (o : Oper) : Bool := notD o && match o.dst with
  | some d => !ys.contains d
  | none => true
def aopI (P : Program) (F : FT) (keep : Bool) (H : HT) (o : Oper) (s : SI) : Option SI :=
  match mvY s.env s.ys o with
  | some (_, d) => some ⟨s.env.set d unkV, s.h, s.pe, s.mr, d :: s.ys⟩
  | none => if okOp s.ys o then match hookArgs H s.env s.ys o with
    | some (_, R, args) => if s.pe.isNone then match evs (ev s.env) args with
        | some vs => match R vs s.h with
          | some (j, h') => some ⟨putv s.env o.dst (.bool j.isNone), h', j, s.mr, s.ys⟩
          | none => none
        | none => none
      else none
    | none => match aop P F keep o ⟨s.env, s.h, []⟩ with
      | some (.norm, s') => some ⟨s'.env, s'.h, s.pe, s.mr, s.ys⟩
      | _ => none
  else none
def aopsI (P : Program) (F : FT) (keep : Bool) (H : HT) (ops : Array Oper) : List Oper -> SI -> Option SI
  | [], s => some s
  | o :: l, s =>
    match wantA ops s.env o with
    | some true => match aopI P F keep H o s with
      | some s' => aopsI P F keep H ops l s'
      | none => none
    | some false => if okOp s.ys o then aopsI P F keep H ops l ⟨putv s.env o.dst undef, s.h, s.pe, s.mr, s.ys⟩ else none
    | none => none
def aloopI (body : SI -> Option (Out × SI)) : Nat -> SI -> Option (Out × SI)
  | 0, _ => none
  | n + 1, s => match body s with
    | some (.norm, s') => aloopI body n s'
    | x => x
def setps (env : List Value) : List Tmp -> List Value -> List Value
  | t :: ts, v :: vs => setps (env.set t v) ts vs
  | _, _ => env
def roundI (run : Code -> SI -> Option (Out × SI)) (env : List Value) (ps : Array Tmp) (assign body : Code) : RT := fun vs h =>
  if vs.length = ps.size then match run assign ⟨setps env ps.toList vs, h, none, false, []⟩ with
    | some (.norm, s1) => match run body s1 with
      | some (.norm, s2) => some (none, s2.h)
      | some (.exit id, s2) => some (some (.exit id), s2.h)
      | some (.ret, s2) => some (some .ret, s2.h)
      | _ => none
    | _ => none
  else none
def acodeI (P : Program) (F : FT) (D : DT) (keep : Bool) : Nat -> Bool -> HT -> Code -> SI -> Option (Out × SI)
  | 0, _, _, _, _ => none
  | n + 1, O, H, c, s => match c with
    | .skip => some (.norm, s)
    | .region _ ops false => (aopsI P F keep H ops ops.toList s).map fun s' => (.norm, s')
    | .region _ ops true => if s.ys.isEmpty && ops.all notD then match D ops ⟨s.env, s.h, []⟩ with
        | some (.norm, ⟨env', h', []⟩) => some (.norm, ⟨env', h', s.pe, s.mr, s.ys⟩)
        | _ => none
      else none
    | .seq a b => match acodeI P F D keep n O H a s with
      | some (.norm, s') => acodeI P F D keep n O H b s'
      | x => x
    | .cond c t e => match ev s.env c with
      | some (.bool true) => acodeI P F D keep n O H t s
      | some (.bool false) => acodeI P F D keep n O H e s
      | _ => none
    | .block id b => match acodeI P F D keep n O H b s with
      | some (.exit i, s') => some (if i = id then .norm else .exit i, s')
      | x => x
    | .loop b => aloopI (acodeI P F D keep n O H b) n s
    | .exit id => some (.exit id, s)
    | .scope b => acodeI P F D keep n O H b s
    | .ret => some (.ret, s)
    | .rangeFunc g ps assign body => if O && H.isNone && !s.mr && s.pe.isNone && s.ys.isEmpty then match ev s.env g with
        | some (.func (.func gf) first cap) => if first.toList.isEmpty then match P.funcs[gf]? with
          | some fi => match fi.body with
            | some ci => if fi.results.toList.isEmpty then
                match acodeI P F D keep n false (some (roundI (acodeI P F D keep n false none) s.env ps assign body)) ci ⟨(unkV :: cap.toList) ++ List.replicate (fi.ntmps - (unkV :: cap.toList).length) undef, s.h, none, false, [0]⟩ with
                | some (o, s') => match o, s'.pe with
                  | .norm, none => some (.norm, ⟨s.env, s'.h, none, true, []⟩)
                  | .ret, none => some (.norm, ⟨s.env, s'.h, none, true, []⟩)
                  | .norm, some (.exit id) => some (.exit id, ⟨s.env, s'.h, none, true, []⟩)
                  | .ret, some (.exit id) => some (.exit id, ⟨s.env, s'.h, none, true, []⟩)
                  | .norm, some .ret => some (.ret, ⟨s.env, s'.h, none, true, []⟩)
                  | .ret, some .ret => some (.ret, ⟨s.env, s'.h, none, true, []⟩)
                  | _, _ => none
                | none => none
              else none
            | none => none
          | none => none
          else none
        | _ => none
      else none
    | _ => none
abbrev CX := Rho -> List Tmp -> Option Code -> Bool -> Act -> World -> Prop
structure RI (P : Program) (r0 : Rho) (h0 : AH) (w0 : World) (C : CX) (r : Rho) (s : SI) (a : Act) (w : World) : Prop where
  env : ER r s.env a.tmps
  st : Stp P r0 h0 w0 r s.h w
  cx : C r s.ys s.pe s.mr a w
structure CxOk (P : Program) (r0 : Rho) (h0 : AH) (w0 : World) (ro : Option Nat) (H : HT) (C : CX) : Prop where
  step : ∀ {r h w r' h' w' ys pe mk} {a a' : Act}, HR P r h w.heap -> Stp P r h w r' h' w' -> a'.defers = a.defers -> (∀ t ∈ ys, a'.tmps[t]? = a.tmps[t]?) -> C r ys pe mk a w -> C r' ys pe mk a' w'
  mv : ∀ {r ys pe mk} {a : Act} {w : World} {t d : Tmp} {v : Value}, C r ys pe mk a w -> t ∈ ys -> a.tmps[t]? = some v -> C r (d :: ys) pe mk (a.put (some d) v) w
  one : ∀ {r ys pe mk} {a : Act} {w : World} {t : Tmp} {v : Value}, C r ys pe mk a w -> t ∈ ys -> a.tmps[t]? = some v -> v.oneCell' = true
  dfr : ∀ {r ys pe a w}, C r ys pe false a w -> a.defers = []
  hook : ∀ R, H = some R -> ∀ {vs h1 j h2}, R vs h1 = some (j, h2) -> ∀ {r ys mk} {a : Act} {w : World} {args' : Array Value} {t : Tmp} {v : Value}, Stp P r0 h0 w0 r h1 w -> C r ys none mk a w -> VL r vs args'.toList -> t ∈ ys -> a.tmps[t]? = some v ->
    ∃ l f tm asg bd, v = .func (.yield l) #[] #[] /\ (Instr.yield l args').run P w = .ok (.round l f tm asg bd) w /\
      ∀ n, RoundIn (FW ro) n P l f tm asg bd w (fun e w' => ∃ r', e = .returned (.bool j.isNone) /\ r.le r' /\ Stp P r0 h0 w0 r' h2 w' /\ C r' ys j mk a w')
def CI (P : Program) (r0 : Rho) (h0 : AH) (w0 : World) (ro : Option Nat) (C : CX) (c : Code) (run : SI -> Option (Out × SI)) : Prop :=
  ∀ (s s' : SI) (out : Out), run s = some (out, s') -> ∀ (r : Rho) (a : Act) (w : World) (Q : Exit -> Act -> World -> Prop), RI P r0 h0 w0 C r s a w ->
    (∀ e a' w' r', OE r' out e -> r.le r' -> RI P r0 h0 w0 C r' s' a' w' -> Q e a' w') -> ∀ n, c.wpIn (FW ro) n P Q a w
section
variable {P : Program} {r0 : Rho} {h0 : AH} {w0 : World} {ro : Option Nat} {H : HT} {C : CX} {F : FT} {keep : Bool}
theorem ER.acts {r : Rho} {env : List Value} {a b : Act} (h : ER r env a.tmps) (e : b.tmps = a.tmps) : ER r env b.tmps := by rw [e]; exact h
theorem put_tm (tm : Array Value) (X Y : List Deferred) (d : Option Tmp) (v : Value) : (Act.put ⟨tm, X⟩ d v).tmps = (Act.put ⟨tm, Y⟩ d v).tmps := by cases d <;> rfl
theorem put_at {a : Act} {o : Oper} {ys : List Tmp} (h : okOp ys o = true) (v : Value) : ∀ t ∈ ys, (a.put o.dst v).tmps[t]? = a.tmps[t]? := by
  intro t ht
  unfold okOp at h
  simp only [Bool.and_eq_true] at h
  have h2 := h.2
  cases hd : o.dst with
  | none => rfl
  | some d =>
    rw [hd] at h2
    have : d ≠ t := fun e => by subst e; simp [ht] at h2
    simp only [Act.put]
    exact Array.getElem?_setIfInBounds_ne this
theorem notD_nd {o : Oper} (h : notD o = true) : ∀ c, o.op ≠ .defer c := by
  intro c e
  unfold notD at h
  rw [e] at h
  cases h
theorem okOp_nd {ys : List Tmp} {o : Oper} (h : okOp ys o = true) : ∀ c, o.op ≠ .defer c := by
  unfold okOp at h
  simp only [Bool.and_eq_true] at h
  exact notD_nd h.1
theorem aopI_ok (hF : FOk P F) (hC : CxOk P r0 h0 w0 ro H C) {o : Oper} {s s' : SI} (he : aopI P F keep H o s = some s') {r : Rho} {a : Act} {w : World} (hs : RI P r0 h0 w0 C r s a w)
    {K : Act -> World -> Prop} {Q : Exit -> Act -> World -> Prop} (hK : ∀ a' w' r', r.le r' -> RI P r0 h0 w0 C r' s' a' w' -> K a' w') (n : Nat) : o.wpIn (FW ro) n P a w K Q := by
  unfold aopI at he
  split at he
  case h_1 t0 d0 hmv =>
    cases he
    refine ⟨fun _ _ => trivial, ?_⟩
    unfold mvY at hmv
    split at hmv
    case h_2 => cases hmv
    case h_1 t hop =>
    split at hmv
    case isFalse => cases hmv
    case isTrue hc =>
    obtain ⟨d, hd, he2⟩ := Option.map_eq_some_iff.1 hmv
    cases he2
    simp only [Bool.and_eq_true, List.contains_iff_mem] at hc
    obtain ⟨hin, hsome⟩ := hc
    obtain ⟨u, hu⟩ := Option.isSome_iff_exists.1 hsome
    obtain ⟨v, hv, _⟩ := hs.env _ _ hu
    obtain ⟨dst, op, type, pos, after, guard⟩ := o
    simp only at hop hd; subst hop; subst hd
    rw [Oper.semAt_eq _ _ _ (fun c e => by cases e)]
    have hrun : (execOp a.eval ⟨some d0, .move (.tmp t0), type, pos, after, guard⟩).run P w = .ok (.value v) w := by
      simp [execOp, Act.eval, hv]
    rw [hrun]
    refine hK _ _ r (.refl r) ⟨?_, hs.st, hC.mv hs.cx hin hv⟩
    exact hs.env.put (v := unkV) (.unk _ _ _ (hC.one hs.cx hin hv) (fun e => by cases e)) (some d0)
  case h_2 =>
  split at he
  case isFalse => cases he
  case isTrue hok =>
  refine ⟨fun _ _ => trivial, ?_⟩
  rw [Oper.semAt_eq _ _ _ (okOp_nd hok)]
  split at he
  case h_1 t0 R0 args0 hh =>
    split at he
    case isFalse => cases he
    case isTrue hpe =>
    split at he
    case h_2 => cases he
    case h_1 vs hvs =>
    split at he
    case h_2 => cases he
    case h_1 j h' hR =>
    cases he
    unfold hookArgs at hh
    split at hh
    case h_2 => cases hh
    case h_1 R c hop =>
    split at hh
    case h_2 => cases hh
    case h_1 t' hcal =>
    split at hh
    case isFalse => cases hh
    case isTrue htt =>
    cases hh
    simp only [Bool.and_eq_true, List.contains_iff_mem] at htt
    obtain ⟨hin, hsome⟩ := htt
    obtain ⟨u, hu⟩ := Option.isSome_iff_exists.1 hsome
    obtain ⟨v, hv, _⟩ := hs.env _ _ hu
    have hpe' : s.pe = none := by cases h : s.pe <;> simp_all
    have hcx := hs.cx
    rw [hpe'] at hcx
    have hvl := evs_ok hs.env.gr hvs
    obtain ⟨l, f, tm, asg, bd, h1, h2, h3⟩ := hC.hook _ rfl hR (args' := c.args.map a.eval) hs.st hcx (by simpa using hvl) hin hv
    subst h1
    obtain ⟨dst, op, type, pos, after, guard⟩ := o
    simp only at hop; subst hop
    have hev : a.eval (.tmp t0) = .func (.yield l) #[] #[] := by simp [Act.eval, hv]
    have hrun : (execOp a.eval ⟨dst, .call c, type, pos, after, guard⟩).run P w = .ok (.round l f tm asg bd) w := by
      simp only [execOp, resolve, hcal, hev, Sem.run_bind, Sem.run_pure, Result.andThen_ok, Deferred.ofValue, invoke]
      simpa using h2
    rw [hrun, Oper.uponIn_round]
    refine ⟨FW_depth, RoundIn.mono (h3 _) fun e w' ⟨r', he, hle, st, cx⟩ => ?_⟩
    subst he
    refine hK _ _ r' hle ⟨(hs.env.mono hle).put (.bool _) _, st, ?_⟩
    exact hC.step st.hr (.refl st.hr) (put_defers _ _ _) (put_at hok _) cx
  case h_2 hh =>
    split at he
    case h_2 => cases he
    case h_1 s1 hop =>
      cases he
      have hsr : SR P r ⟨s.env, s.h, []⟩ ⟨a.tmps, []⟩ w := ⟨hs.env, hs.st.hr, trivial⟩
      have hwp := aop_ok hF hsr hop (K := fun a' w' => ∃ r', Stp P r s.h w r' s1.h w' /\ SR P r' s1 a' w' /\ a'.defers = []) (Q := fun _ _ _ => False) (fun h => absurd rfl h) (fun _ a' w' r' st sr => ⟨r', st, sr, by
        have hd := sr.ds
        have : s1.ds = [] := by
          unfold aop at hop
          split at hop
          · rename_i c hc; exact absurd hc (okOp_nd hok c)
          · split at hop
            · cases hop; rfl
            · cases hop
            · cases hop
        rw [this] at hd
        exact hd.nil_inv⟩)
      obtain ⟨tm, X⟩ := a
      refine op_in hwp (fun a' w' ⟨_, _, _, e⟩ => e) (fun v w' ⟨r', st, sr, _⟩ => ?_)
      refine hK _ _ r' st.le ⟨sr.env.acts (put_tm _ _ _ _ _), hs.st.trans st, ?_⟩
      exact hC.step hs.st.hr st (put_defers _ _ _) (put_at hok _) hs.cx
theorem aopsI_ok (hF : FOk P F) (hC : CxOk P r0 h0 w0 ro H C) {ops : Array Oper} : ∀ (l : List Oper) {s s' : SI}, aopsI P F keep H ops l s = some s' -> ∀ {r : Rho} {a : Act} {w : World}, RI P r0 h0 w0 C r s a w ->
    ∀ {Q : Exit -> Act -> World -> Prop}, (∀ a' w' r', r.le r' -> RI P r0 h0 w0 C r' s' a' w' -> Q .normal a' w') -> ∀ n, wpListIn (FW ro) n P ops Q l a w := by
  intro l
  induction l with
  | nil => intro s s' he r a w hs Q hQ n; cases he; exact hQ _ _ r (.refl r) hs
  | cons o l ih =>
    intro s s' he r a w hs Q hQ n
    simp only [aopsI] at he
    split at he
    · rename_i hw
      have hw' := wantA_ok hs.env hw
      unfold wpListIn
      rw [hw']
      simp only [if_true]
      split at he
      · rename_i s1 h1
        exact aopI_ok hF hC h1 hs (fun a' w' r' hle hs' => ih he hs' (fun a2 w2 r2 hle2 h2 => hQ a2 w2 r2 (hle.trans hle2) h2) n) n
      · cases he
    · rename_i hw
      have hw' := wantA_ok hs.env hw
      unfold wpListIn
      rw [hw']
      simp only [Bool.false_eq_true, if_false]
      split at he
      · rename_i hok
        refine ⟨fun _ _ => trivial, ih he ⟨hs.env.put (undef_vr r) _, hs.st, ?_⟩ hQ n⟩
        exact hC.step hs.st.hr (.refl hs.st.hr) (put_defers _ _ _) (put_at hok _) hs.cx
      · cases he
    · cases he
theorem aloopI_ok {c : Code} {body : SI -> Option (Out × SI)} (hb : CI P r0 h0 w0 ro C c body) : ∀ (m : Nat) (s s' : SI) (out : Out), aloopI body m s = some (out, s') ->
    ∀ (r : Rho) (a : Act) (w : World) (Q : Exit -> Act -> World -> Prop), RI P r0 h0 w0 C r s a w -> (∀ e a' w' r', OE r' out e -> r.le r' -> RI P r0 h0 w0 C r' s' a' w' -> Q e a' w') -> ∀ n, Code.roundsIn (FW ro) n P c Q m a w := by
  intro m
  induction m with
  | zero => intro s s' out he; cases he
  | succ m ih =>
    intro s s' out he r a w Q hs hQ n
    rw [roundsIn_succ]
    simp only [aloopI] at he
    split at he
    · rename_i s1 h1
      refine hb s s1 .norm h1 r a w _ hs (fun e a' w' r' ho hle sr => ?_) n
      cases ho
      exact ih s1 s' out he r' a' w' Q sr (fun e2 a2 w2 r2 ho2 hle2 h2 => hQ e2 a2 w2 r2 ho2 (hle.trans hle2) h2) n
    · rename_i x hx
      refine hb s s' out he r a w _ hs (fun e a' w' r' ho hle sr => ?_) n
      cases out with
      | norm => exact absurd he (hx s')
      | exit id => cases ho; exact hQ _ _ _ r' rfl hle sr
      | ret => cases ho; exact hQ _ _ _ r' rfl hle sr
      | pan v => obtain ⟨v', rfl, hv⟩ := ho; exact hQ _ _ _ r' ⟨v', rfl, hv⟩ hle sr
def recL (fn : FuncId) (tm : Array Value) (ps : Array Tmp) (assign body : Code) (D : Nat) (pe : Option Code) : Loop := { state := if pe.isNone then .ready else .done, pending := pe, fn, tmps := tm, params := ps, assign, body, defers := D }
def CxH (rs : Rho) (l D : Nat) (rec : Option Code -> Loop) : CX := fun r ys pe mk a w => mk = false /\ a.defers = [] /\ rs.le r /\ (∀ t ∈ ys, ∀ v, a.tmps[t]? = some v -> v = .func (.yield l) #[] #[]) /\ w.heap[l]? = some (.loop (rec pe)) /\ w.heap[D]? = some (.deferred (some []))
def CxR (rs : Rho) (l D : Nat) (o : Loop) : CX := fun r ys pe mk a w => ys = [] /\ mk = false /\ a.defers = [] /\ pe = none /\ rs.le r /\ w.heap[l]? = some (.loop o) /\ w.heap[D]? = some (.deferred (some []))
theorem cxR_ok {rs : Rho} {l D : Nat} {o : Loop} {ro : Option Nat} : CxOk P r0 h0 w0 ro none (CxR rs l D o) where
  step := fun hr st hd _ ⟨e0, e1, e2, e3, e4, e5, e6⟩ => ⟨e0, e1, hd.trans e2, e3, e4.trans st.le, st.keepIdl hr e5 rfl, st.keepIdl hr e6 rfl⟩
  mv := fun ⟨e0, _⟩ ht => by rw [e0] at ht; cases ht
  one := fun ⟨e0, _⟩ ht => by rw [e0] at ht; cases ht
  dfr := fun ⟨_, _, e, _⟩ => e
  hook := fun R e => by cases e
theorem setps_ok {r : Rho} : ∀ (ps : List Tmp) (vs vs' : List Value), VL r vs vs' -> ∀ (env : List Value) (tm : Array Value), ER r env tm -> ER r (setps env ps vs) ((ps.zip vs').foldl (fun t (p, v) => t.setIfInBounds p v) tm) := by
  intro ps
  induction ps with
  | nil => intro vs vs' hv env tm h; simpa [setps] using h
  | cons p ps ih =>
    intro vs vs' hv env tm h
    cases vs with
    | nil => have := hv.nil_left; subst this; simpa [setps] using h
    | cons v vs =>
      obtain ⟨v', l', rfl, h1, h2⟩ := hv.head
      simp only [setps, List.zip_cons_cons, List.foldl_cons]
      exact ih vs l' h2 _ _ (ER.put (a := ⟨tm, []⟩) h h1 (some p))
theorem cxH_ok {n : Nat} {F : FT} {D : DT} (ih : ∀ (O : Bool) (H : HT) (c : Code) (ro : Option Nat) (C : CX), CxOk P r0 h0 w0 ro H C -> (O = true -> ro = none /\ ∀ (r : Rho) (a : Act) (w : World) (Dk : Nat), w0.heap.size <= Dk -> a.defers = [{ target := .collected Dk, args := #[] }] -> w.heap[Dk]? = some (.deferred (some [])) -> C r [] none true a w) -> CI P r0 h0 w0 ro C c (acodeI P F D keep n O H c))
    {rs : Rho} {env : List Value} {tm : Array Value} {fn : FuncId} {ps : Array Tmp} {assign body : Code} {Dk : Nat} (henv : ER rs env tm) (hD : w0.heap.size <= Dk) :
    CxOk P r0 h0 w0 none (some (roundI (acodeI P F D keep n false none) env ps assign body)) (CxH rs (Dk + 1) Dk (recL fn tm ps assign body Dk)) where
  step := fun hr st hd ht ⟨e1, e2, e3, e4, e5, e6⟩ => ⟨e1, hd.trans e2, e3.trans st.le, fun t h v hv => e4 t h v ((ht t h).symm.trans hv), st.keepIdl hr e5 rfl, st.keepIdl hr e6 rfl⟩
  mv := fun {r ys pe mk a w t d v} ⟨e1, e2, e3, e4, e5, e6⟩ ht hv => ⟨e1, (put_defers _ _ _).trans e2, e3, fun t' ht' v' hv' => by
    by_cases hd : d = t'
    · subst hd
      simp only [Act.put, Array.getElem?_setIfInBounds_self] at hv'
      split at hv'
      · cases hv'; exact e4 t ht _ hv
      · cases hv'
    · have : t' ∈ ys := (List.mem_cons.1 ht').resolve_left (fun e => hd e.symm)
      refine e4 t' this v' ?_
      simp only [Act.put] at hv'
      rwa [Array.getElem?_setIfInBounds_ne hd] at hv', e5, e6⟩
  one := fun ⟨e1, e2, e3, e4, e5, e6⟩ ht hv => by rw [e4 _ ht _ hv]; rfl
  dfr := fun ⟨_, e, _⟩ => e
  hook := fun R e => by
    cases e
    intro vs h1 j h2 hR r ys mk a w args' t v st hc hvl htin htv
    have hcx := hc
    obtain ⟨e1, e2, e3, e4, e5, e6⟩ := hc
    unfold roundI at hR
    split at hR
    case isFalse => cases hR
    case isTrue hlen =>
    split at hR
    case h_2 => cases hR
    case h_1 s1 hasg =>
    have hsz : args'.size = (recL fn tm ps assign body Dk none).params.size := by
      have := hvl.1
      simp only [Array.length_toList] at this
      show args'.size = ps.size
      omega
    refine ⟨Dk + 1, _, _, _, _, e4 t htin v htv, run_yield e5 hsz, fun n2 => ?_⟩
    have hin : RI P r0 h0 w0 (CxR r (Dk + 1) Dk (recL fn tm ps assign body Dk none)) r ⟨setps env ps.toList vs, h1, none, false, []⟩ ⟨(ps.zip args').foldl (fun t (p, v) => t.setIfInBounds p v) tm, []⟩ w := by
      refine ⟨?_, st, rfl, rfl, rfl, rfl, .refl r, e5, e6⟩
      have := setps_ok ps.toList vs args'.toList hvl env tm (henv.mono e3)
      rw [<- Array.toList_zip, Array.foldl_toList] at this
      exact this
    have hlt : Dk + 1 < w.heap.size := (Array.getElem?_eq_some_iff.1 e5).1
    refine roundIn_of_wpIn (F := FW none) trivial (ih false none assign (some (Dk + 1)) _ cxR_ok (fun e => by cases e) _ _ _ hasg r _ w _ hin (fun e a1 w1 r1 ho hle1 hs1 => ?_) _)
    cases ho
    obtain ⟨f0, f1, f2, f3, f4, f5, f6⟩ := hs1.cx
    refine ⟨_, run_beginRound f5 rfl, ?_⟩
    have hlt1 : Dk + 1 < w1.heap.size := (Array.getElem?_eq_some_iff.1 f5).1
    obtain ⟨bz, hbz⟩ : ∃ bz : Loop, bz = { recL fn tm ps assign body Dk none with state := .busy } := ⟨_, rfl⟩
    rw [<- hbz]
    have hin2 : RI P r0 h0 w0 (CxR r (Dk + 1) Dk bz) r1 s1 a1 (w1.putObj (Dk + 1) (.loop bz)) :=
      ⟨hs1.env, hs1.st.putIdl f5 rfl (by omega) _, f0, f1, f2, f3, f4, World.putObj_heap_same hlt1, by rw [World.putObj_heap_other (by omega)]; exact f6⟩
    have fin : ∀ (jump : Option Code) (r2 : Rho) (a2 : Act) (w2 : World) (s2 : SI), RI P r0 h0 w0 (CxR r (Dk + 1) Dk bz) r2 s2 a2 w2 -> j = jump -> h2 = s2.h ->
        ∃ v w', (Instr.endRound (Dk + 1) jump).run P w2 = .ok v w' /\ ∃ r', Ending.returned v = .returned (.bool j.isNone) /\ r.le r' /\ Stp P r0 h0 w0 r' h2 w' /\ CxH rs (Dk + 1) Dk (recL fn tm ps assign body Dk) r' ys j mk a w' := by
      intro jump r2 a2 w2 s2 hs2 hj hh
      subst hj; subst hh
      obtain ⟨_, g1, g2, g3, g4, g5, g6⟩ := hs2.cx
      have hlt2 : Dk + 1 < w2.heap.size := (Array.getElem?_eq_some_iff.1 g5).1
      refine ⟨_, _, run_endRound j g5, r2, rfl, g4, hs2.st.putIdl g5 rfl (by omega) _, e1, e2, e3.trans g4, e4, ?_, ?_⟩
      · rw [World.putObj_heap_same hlt2, hbz]; rfl
      · rw [World.putObj_heap_other (by omega)]; exact g6
    split at hR
    · rename_i s2 hb
      cases hR
      refine ih false none body (some (Dk + 1)) _ cxR_ok (fun e => by cases e) _ _ _ hb r1 _ _ _ hin2 (fun e a2 w2 r2 ho hle2 hs2 => ?_) _
      cases ho
      exact fin none r2 a2 w2 s2 hs2 rfl rfl
    · rename_i id s2 hb
      cases hR
      refine ih false none body (some (Dk + 1)) _ cxR_ok (fun e => by cases e) _ _ _ hb r1 _ _ _ hin2 (fun e a2 w2 r2 ho hle2 hs2 => ?_) _
      cases ho
      exact fin (some (.exit id)) r2 a2 w2 s2 hs2 rfl rfl
    · rename_i s2 hb
      cases hR
      refine ih false none body (some (Dk + 1)) _ cxR_ok (fun e => by cases e) _ _ _ hb r1 _ _ _ hin2 (fun e a2 w2 r2 ho hle2 hs2 => ?_) _
      cases ho
      exact fin (some .ret) r2 a2 w2 s2 hs2 rfl rfl
    · cases hR
end
end Go.Eng

namespace Go.Eng
section
variable {P : Program} {r0 : Rho} {h0 : AH} {w0 : World}
def MarkOk (w0 : World) (C : CX) : Prop := ∀ (r : Rho) (a : Act) (w : World) (Dk : Nat), w0.heap.size <= Dk -> a.defers = [{ target := .collected Dk, args := #[] }] -> w.heap[Dk]? = some (.deferred (some [])) -> C r [] none true a w
def DOkA (P : Program) (D : DT) : Prop :=
  ∀ (ops : Array Oper) (s s' : St) (out : Out), D ops s = some (out, s') -> ∀ (r : Rho) (a : Act) (w : World) (Q : Exit -> Act -> World -> Prop),
    SR P r s a w -> Post P r s.h w out s' Q -> wpAny P .any ops Q ops.size (Array.replicate ops.size false) a { w with drawn := w.drawn + 1 }
theorem adrawL_okA {P : Program} (hm : P.follows .mixedOrders = true) {keep : Bool} {F : FT} (hF : FOk P F) : DOkA P (adrawL P keep F) := by
  intro ops s s' out he r a w Q hs hQ
  unfold adrawL at he
  split at he
  · rename_i x hx
    cases he
    unfold adraw at hx
    split at hx
    case h_2 => cases hx
    case h_1 trs fin htr =>
      split at hx
      case isFalse => cases hx
      case isTrue hc =>
        simp only [Bool.and_eq_true] at hc
        obtain ⟨⟨⟨ht, hc⟩, hfl⟩, hrd⟩ := hc
        exact drawP_any hm hF htr ht hc hfl (readsOk_P hrd) (by cases fin <;> (cases hx; rfl)) r a w Q hs hQ
  · simp only at he
    split at he
    · rename_i hp
      have hp := permOk_inv hp
      unfold adraw at he
      split at he
      case h_2 => cases he
      case h_1 trs fin htr =>
        split at he
        case isFalse => cases he
        case isTrue hc =>
          simp only [Bool.and_eq_true] at hc
          obtain ⟨⟨⟨ht, hc⟩, hfl⟩, hrd⟩ := hc
          have hd := drawP_any hm hF htr ht hc hfl (readsOk_P hrd) (out := out) (s' := s') (by cases fin <;> (cases he; rfl)) r a w Q hs hQ
          rw [reOps_size hp] at hd
          refine wpAny_re hp ops.size _ _ a _ (by simp) (by simp) (fun k i h b => ?_) hd
          have hk := (List.getElem?_eq_some_iff.1 h).1
          have hi := (List.getElem?_eq_some_iff.1 (hp.si _ _ h)).1
          have := hp.ls
          have := hp.li
          simp [Array.getD_eq_getD_getElem?, show k < ops.size by omega, show i < ops.size by omega]
    · cases he
theorem acodeI_ok (hP : noGoroutines P = true) (hm : P.follows .mixedOrders = true) {F : FT} (hF : FOk P F) {D : DT} (hD : DOkA P D) {keep : Bool} : ∀ (n : Nat) (O : Bool) (H : HT) (c : Code) (ro : Option Nat) (C : CX), CxOk P r0 h0 w0 ro H C -> (O = true -> ro = none /\ MarkOk w0 C) ->
    CI P r0 h0 w0 ro C c (acodeI P F D keep n O H c) := by
  intro n
  induction n with
  | zero => intro O H c ro C hC hO s s' out he; cases he
  | succ n ih =>
    intro O H c ro C hC hO s s' out he r a w Q hs hQ m
    unfold acodeI at he
    split at he
    · cases he; exact wpIn_skip (hQ _ _ _ r rfl (.refl r) hs)
    · obtain ⟨s1, h1, h2⟩ := Option.map_eq_some_iff.1 he
      cases h2
      exact wpIn_region_list (aopsI_ok hF hC _ h1 hs (fun a' w' r' hle hs' => hQ _ _ _ r' rfl hle hs') m)
    · rename_i id ops
      split at he
      case isFalse => cases he
      case isTrue hc =>
        simp only [Bool.and_eq_true] at hc
        obtain ⟨hc1, hc2⟩ := hc
        have hys : s.ys = [] := by simpa using hc1
        split at he
        case h_2 => cases he
        case h_1 env' h' hd =>
          cases he
          have hany := hD ops _ _ _ hd r ⟨a.tmps, []⟩ w (fun e a' w' => e = .normal /\ a'.defers = [] /\ ∃ r', Stp P r s.h w r' h' w' /\ ER r' env' a'.tmps) ⟨hs.env, hs.st.hr, trivial⟩ (fun e a' w' r' ho st sr => by
            cases ho
            exact ⟨rfl, sr.ds.nil_inv, r', st, sr.env⟩)
          obtain ⟨tm, X⟩ := a
          refine wpIn_region_any hm (any_in (X := X) (fun o ho => notD_nd (Array.all_eq_true'.1 hc2 o ho)) (fun tm' w' ⟨r', st, her⟩ => ?_) _ _ tm _ hany)
          refine hQ _ _ _ r' rfl st.le ⟨her, hs.st.trans st, ?_⟩
          exact hC.step (ys := s.ys) (pe := s.pe) (mk := s.mr) (a := ⟨tm, X⟩) hs.st.hr st rfl (fun t ht => absurd ht (by rw [hys]; simp)) hs.cx
    · rename_i x y
      refine wpIn_seq ?_
      split at he
      · rename_i s1 h1
        refine ih O H x ro C hC hO s s1 .norm h1 r a w _ hs (fun e a' w' r' ho hle sr => ?_) m
        cases ho
        exact ih O H y ro C hC hO s1 s' out he r' a' w' Q sr (fun e2 a2 w2 r2 ho2 hle2 h2 => hQ e2 a2 w2 r2 ho2 (hle.trans hle2) h2) m
      · rename_i z hz
        refine ih O H x ro C hC hO s s' out he r a w _ hs (fun e a' w' r' ho hle sr => ?_) m
        cases out with
        | norm => exact absurd he (hz s')
        | exit id => cases ho; exact hQ _ _ _ r' rfl hle sr
        | ret => cases ho; exact hQ _ _ _ r' rfl hle sr
        | pan v => obtain ⟨v', rfl, hv⟩ := ho; exact hQ _ _ _ r' ⟨v', rfl, hv⟩ hle sr
    · rename_i c t e
      split at he
      · rename_i hc; exact wpIn_cond_true (ev_ok hs.env hc).bool_inv (ih O H t ro C hC hO s s' out he r a w Q hs hQ m)
      · rename_i hc; exact wpIn_cond_false (ev_ok hs.env hc).bool_inv (ih O H e ro C hC hO s s' out he r a w Q hs hQ m)
      · cases he
    · rename_i id b
      refine wpIn_block ?_
      split at he
      · rename_i i s1 h1
        cases he
        refine ih O H b ro C hC hO s _ (.exit i) h1 r a w _ hs (fun e a' w' r' ho hle sr => ?_) m
        cases ho
        simp only [Exit.inBlock]
        split
        · rename_i hid
          subst hid
          exact hQ _ _ _ r' (by simp [OE]) hle sr
        · rename_i hid
          exact hQ _ _ _ r' (by simp [OE, hid]) hle sr
      · rename_i z hz
        refine ih O H b ro C hC hO s s' out he r a w _ hs (fun e a' w' r' ho hle sr => ?_) m
        cases out with
        | norm => cases ho; exact hQ _ _ _ r' rfl hle sr
        | exit id => exact absurd he (hz id s')
        | ret => cases ho; exact hQ _ _ _ r' rfl hle sr
        | pan v => obtain ⟨v', rfl, hv⟩ := ho; exact hQ _ _ _ r' ⟨v', rfl, hv⟩ hle sr
    · rename_i b
      exact wpIn_loop_rounds n (aloopI_ok (ih O H b ro C hC hO) n s s' out he r a w Q hs hQ m)
    · cases he; exact wpIn_exit (hQ _ _ _ r rfl (.refl r) hs)
    · rename_i b
      refine wpIn_scope (ih O H b ro C hC hO s s' out he r a w _ hs (fun e a' w' r' ho hle sr => ?_) m)
      cases out with
      | norm => cases ho; exact hQ _ _ _ r' rfl hle sr
      | exit id => cases ho; exact hQ _ _ _ r' rfl hle sr
      | ret => cases ho; exact hQ _ _ _ r' rfl hle sr
      | pan v => obtain ⟨v', rfl, hv⟩ := ho; exact hQ _ _ _ r' ⟨v', rfl, hv⟩ hle sr
    · cases he; exact wpIn_ret (hQ _ _ _ r rfl (.refl r) hs)
    · rename_i g ps assign body
      split at he
      case isFalse => cases he
      case isTrue hc =>
      simp only [Bool.and_eq_true, Bool.not_eq_true'] at hc
      obtain ⟨⟨⟨⟨hc1, hc2⟩, hc3⟩, hc4⟩, hc5⟩ := hc
      have hys : s.ys = [] := by simpa using hc5
      obtain ⟨rfl, hMk⟩ := hO hc1
      have hH : H = none := by cases H <;> simp_all
      subst hH
      have hpe : s.pe = none := by cases h : s.pe <;> simp_all
      have hcx := hs.cx
      rw [hc3, hpe] at hcx
      have hdf := hC.dfr hcx
      split at he
      case h_2 => cases he
      case h_1 gf first cap hg =>
      split at he
      case isFalse => cases he
      case isTrue hfst =>
      split at he
      case h_2 => cases he
      case h_1 fi hfi =>
      split at he
      case h_2 => cases he
      case h_1 ci hci =>
      split at he
      case isFalse => cases he
      case isTrue hres =>
      split at he
      case h_2 => cases he
      case h_1 o s1 hrun =>
      obtain ⟨f', c', e1, e2, e3⟩ := (ev_ok hs.env hg).func_inv
      have hf' : f' = #[] := by
        have h1 : first.toList = [] := by simpa using hfst
        rw [h1] at e2
        exact Array.toList_eq_nil_iff.1 e2.nil_left
      subst hf'
      have hw0 := hs.st.fr.size
      refine wpIn_rangeFunc (fun fn _ => ?_)
      obtain ⟨W1, hW1⟩ : ∃ W1, (w.alloc (.deferred (some []))).alloc (.loop (recL fn a.tmps ps assign body w.heap.size none)) = W1 := ⟨_, rfl⟩
      have hL1 : W1.heap[w.heap.size + 1]? = some (.loop (recL fn a.tmps ps assign body w.heap.size none)) := by
        rw [<- hW1]; have := World.alloc_heap_new (w.alloc (.deferred (some []))) (.loop (recL fn a.tmps ps assign body w.heap.size none)); rwa [World.size_alloc] at this
      have hK1 : W1.heap[w.heap.size]? = some (.deferred (some [])) := by
        rw [<- hW1]
        have h1 := World.alloc_heap_new w (.deferred (some []))
        have h2 : w.heap.size < (w.alloc (.deferred (some []))).heap.size := by rw [World.size_alloc]; omega
        show ((w.alloc (.deferred (some []))).heap.push _)[w.heap.size]? = _
        rw [Array.getElem?_push_lt h2, <- Array.getElem?_eq_getElem h2]; exact h1
      have st1 : Stp P r0 h0 w0 r s.h W1 := by rw [<- hW1]; exact (hs.st.pushIdl _).pushIdl _
      refine ⟨w.heap.size + 1, [{ target := .collected w.heap.size, args := #[] }], W1, { target := .fn (.func gf) c', args := #[.func (.yield (w.heap.size + 1)) #[] #[]] }, W1, gf,
        #[.func (.yield (w.heap.size + 1)) #[] #[]] ++ c', W1, ?_, ?_, fun _ _ => trivial, ?_, FW_depth, ?_⟩
      · rw [<- hW1]; exact run_enterLoop_outer _ _ _ _ _
      · simp only [resolve, rangeCall, e1, Deferred.ofValue]
        simp [Act.eval]
      · simp only [invoke, Sem.run_bind, Sem.run_pure, Result.andThen_ok]
        exact run_callFunc hP hfi hci _ _
      · have hcx1 : CxOk P r0 h0 w0 none (some (roundI (acodeI P F D keep n false none) s.env ps assign body)) (CxH r (w.heap.size + 1) w.heap.size (recL fn a.tmps ps assign body w.heap.size)) :=
          cxH_ok (fun O H c ro C h1 h2 => ih O H c ro C h1 (fun e => ⟨(h2 e).1, (h2 e).2⟩)) hs.env hw0
        have hargs : VL r (unkV :: cap.toList) (#[Value.func (.yield (w.heap.size + 1)) #[] #[]] ++ c').toList := by
          rw [Array.toList_append]
          exact VL.cons (.unk _ _ _ rfl (fun e => by cases e)) e3
        have hin : RI P r0 h0 w0 (CxH r (w.heap.size + 1) w.heap.size (recL fn a.tmps ps assign body w.heap.size)) r ⟨(unkV :: cap.toList) ++ List.replicate (fi.ntmps - (unkV :: cap.toList).length) undef, s.h, none, false, [0]⟩
            { tmps := (#[Value.func (.yield (w.heap.size + 1)) #[] #[]] ++ c') ++ Array.replicate (fi.ntmps - (#[Value.func (.yield (w.heap.size + 1)) #[] #[]] ++ c').size) undef, defers := [] } W1 :=
          ⟨start_env (P := P) (h := s.h) (w := w) hargs fi.ntmps, st1, rfl, rfl, .refl r, fun t ht v hv => by
            rw [List.mem_singleton] at ht; subst ht
            rw [Array.append_assoc] at hv
            simpa [Array.getElem?_append, eq_comm] using hv, hL1, hK1⟩
        refine callsIn_of_wp (F := FW none) hfi hci trivial (ih false _ ci none _ hcx1 (fun e => by cases e) _ _ _ hrun r _ W1 _ hin (fun e a' w' r' ho hle hs' => ?_) _)
        obtain ⟨g1, g2, g3, g4, g5, g6⟩ := hs'.cx
        have hlt : w.heap.size + 1 < w'.heap.size := (Array.getElem?_eq_some_iff.1 g5).1
        have fin : (match s1.pe with
            | none => Q .normal { a with defers := [{ target := .collected w.heap.size, args := #[] }] ++ a.defers } (w'.putObj (w.heap.size + 1) (.loop { recL fn a.tmps ps assign body w.heap.size s1.pe with state := .exhausted }))
            | some c => c.wpIn (FW none) m P Q { a with defers := [{ target := .collected w.heap.size, args := #[] }] ++ a.defers } (w'.putObj (w.heap.size + 1) (.loop { recL fn a.tmps ps assign body w.heap.size s1.pe with state := .exhausted }))) ->
            a'.defers = [] /\ ∃ v, (results fi a'.tmps).run P w' = .ok v w' /\ rangePost (FW none) m P (w.heap.size + 1) Q { a with defers := [{ target := .collected w.heap.size, args := #[] }] ++ a.defers } (.returned v) w' := by
          intro hq
          have hvs : ares P s1.env s1.h fi.results.toList = some [] := by
            have : fi.results.toList = [] := by simpa using hres
            rw [this]; rfl
          obtain ⟨v', q1, _⟩ := tup_ok hs'.env hs'.st.hr hvs
          refine ⟨g2, v', q1, s1.pe, _, run_endLoop g5 (by unfold recL; cases s1.pe <;> simp), hq⟩
        have hri : ∀ O', (O' = Out.norm \/ (∃ id, O' = .exit id) \/ O' = .ret) -> RI P r0 h0 w0 C r' ⟨s.env, s1.h, none, true, []⟩ { a with defers := [{ target := .collected w.heap.size, args := #[] }] ++ a.defers } (w'.putObj (w.heap.size + 1) (.loop { recL fn a.tmps ps assign body w.heap.size s1.pe with state := .exhausted })) := by
          intro _ _
          refine ⟨hs.env.mono hle, hs'.st.putIdl g5 rfl (by omega) _, hMk r' _ _ w.heap.size hw0 (by simp [hdf]) ?_⟩
          rw [World.putObj_heap_other (by omega)]; exact g6
        have main : (e = .normal \/ e = .ret) -> bodyPost P fi (rangePost (FW none) m P (w.heap.size + 1) Q { a with defers := [{ target := .collected w.heap.size, args := #[] }] ++ a.defers }) e a' w' := by
          intro hee
          have hfin := fin (by
            split at he
            all_goals first
              | (rename_i hp; cases he; rw [hp]; exact hQ _ _ _ r' rfl hle (by have := hri .norm (.inl rfl); rw [hp] at this; exact this))
              | (rename_i id hp; cases he; rw [hp]; exact wpIn_exit (hQ _ _ _ r' rfl hle (by have := hri (.exit id) (.inr (.inl ⟨id, rfl⟩)); rw [hp] at this; exact this)))
              | (rename_i hp; cases he; rw [hp]; exact wpIn_ret (hQ _ _ _ r' rfl hle (by have := hri .ret (.inr (.inr rfl)); rw [hp] at this; exact this)))
              | cases he)
          rcases hee with rfl | rfl
          · exact hfin
          · exact hfin
        cases o with
        | norm => cases ho; exact main (.inl rfl)
        | ret => cases ho; exact main (.inr rfl)
        | exit id => cases he
        | pan v => cases he
    · cases he
end
end Go.Eng

namespace Go.Eng
open Go.RowKit
section
variable {P : Program}
def hasRng : Code -> Bool
  | .rangeFunc .. => true
  | .seq a b => hasRng a || hasRng b
  | .cond _ t e => hasRng t || hasRng e
  | .block _ b => hasRng b
  | .loop b => hasRng b
  | .scope b => hasRng b
  | _ => false
def CxO (w0 : World) : CX := fun r ys pe mk a w => ys = [] /\ (mk = false -> a.defers = []) /\ (mk = true -> ∃ Dk, w0.heap.size <= Dk /\ a.defers = [{ target := .collected Dk, args := #[] }] /\ w.heap[Dk]? = some (.deferred (some [])))
theorem cxO_ok {r0 : Rho} {h0 : AH} {w0 : World} : CxOk P r0 h0 w0 none none (CxO w0) where
  step := fun hr st hd _ ⟨e0, e1, e2⟩ => ⟨e0, fun h => hd.trans (e1 h), fun h => by obtain ⟨Dk, g1, g2, g3⟩ := e2 h; exact ⟨Dk, g1, hd.trans g2, st.keepIdl hr g3 rfl⟩⟩
  mv := fun ⟨e0, _⟩ ht => by rw [e0] at ht; cases ht
  one := fun ⟨e0, _⟩ ht => by rw [e0] at ht; cases ht
  dfr := fun ⟨_, e, _⟩ => e rfl
  hook := fun R e => by cases e
theorem markO {w0 : World} : MarkOk w0 (CxO w0) := fun r a w Dk h1 h2 h3 => show _ /\ _ /\ _ from ⟨rfl, fun e => (by cases e), fun _ => ⟨Dk, h1, h2, h3⟩⟩
def astepI (P : Program) (D : FT -> DT) (keep : FuncId -> Bool) (fuel : Nat) (F : FT) : FT := fun f args h _ =>
  match P.funcs[f]? with
  | some fn =>
    match fn.body with
    | some c =>
      match acodeI P F (D F) (keep f) fuel true none c ⟨args ++ List.replicate (fn.ntmps - args.length) undef, h, none, false, []⟩ with
      | some (.norm, s') => (ares P s'.env s'.h fn.results.toList).map fun vs => (.ret (tup vs), s'.h)
      | some (.ret, s') => (ares P s'.env s'.h fn.results.toList).map fun vs => (.ret (tup vs), s'.h)
      | _ => none
    | none => none
  | none => none
theorem astepI_ok (hP : noGoroutines P = true) {D : FT -> DT} (hm : P.follows .mixedOrders = true) (hD : ∀ F, FOk P F -> DOkA P (D F)) {keep : FuncId -> Bool} {fuel : Nat} {F : FT} (hF : FOk P F) : FOk P (astepI P D keep fuel F) := by
  intro f args h tg res h' he r w args' hr hargs o a K Q hK hQ
  simp only [astepI] at he
  split at he
  case h_2 => cases he
  case h_1 fn hf =>
  split at he
  case h_2 => cases he
  case h_1 c hb =>
  rw [run_callFunc hP hf hb]
  have start : RI P r h w (CxO w) r ⟨args ++ List.replicate (fn.ntmps - args.length) undef, h, none, false, []⟩ { tmps := args' ++ Array.replicate (fn.ntmps - args'.size) undef, defers := [] } w :=
    ⟨start_env (P := P) (h := h) (w := w) hargs fn.ntmps, .refl hr, ⟨rfl, fun _ => rfl, fun e => by cases e⟩⟩
  refine (callsIn_wide (n := 0)).1 (callsIn_of_wp_marks hf hb trivial ?_)
  have hcode := acodeI_ok (r0 := r) (h0 := h) (w0 := w) hP hm hF (hD _ hF) (keep := keep f) fuel true none c none (CxO w) cxO_ok (fun _ => ⟨rfl, markO⟩)
  have behind : ∀ {s' : SI} {a' : Act} {w' : World} {r' : Rho}, RI P r h w (CxO w) r' s' a' w' -> (ares P s'.env s'.h fn.results.toList).map (fun vs => (Res.ret (tup vs), s'.h)) = some (res, h') ->
      LeavesInM Fence.wide 0 P fn a'.tmps (fun
        | .returned v, w'' => K (a.put o.dst v) w''
        | .panicked chain, w'' => Q (.panic chain) a w''
        | .outgrown, _ => LetsOut Q) a'.defers .returning w' := by
    intro s' a' w' r' hs hm
    obtain ⟨vs, hvs, hh⟩ := Option.map_eq_some_iff.1 hm
    cases hh
    obtain ⟨_, c1, c2⟩ := hs.cx
    cases hmk : s'.mr with
    | false =>
      rw [c1 hmk]
      obtain ⟨v', e1, e2⟩ := tup_ok hs.env hs.st.hr hvs
      exact ⟨v', e1, hK _ _ _ _ rfl hs.st e2⟩
    | true =>
      obtain ⟨Dk, g1, g2, g3⟩ := c2 hmk
      rw [g2]
      have st2 := hs.st.putIdl g3 rfl g1 (.deferred none)
      obtain ⟨v', e1, e2⟩ := tup_ok hs.env st2.hr hvs
      exact ⟨by simp, .inl ⟨Dk, _, rfl, run_takeDeferred g3, v', e1, hK _ _ _ _ rfl st2 e2⟩⟩
  split at he
  · rename_i s' h1
    refine hcode _ _ _ h1 r _ w _ start (fun e a' w' r' ho hle hs => ?_) 0
    cases ho
    exact behind hs he
  · rename_i s' h1
    refine hcode _ _ _ h1 r _ w _ start (fun e a' w' r' ho hle hs => ?_) 0
    cases ho
    exact behind hs he
  · cases he
def rngF (P : Program) (f : FuncId) : Bool := match P.funcs[f]? with
  | some fn => match fn.body with
    | some c => hasRng c
    | none => false
  | none => false
def afunI (P : Program) (D : FT -> DT) (keep : FuncId -> Bool) (fuel : Nat) (X : XT) : Nat -> FT
  | 0 => fun _ _ _ _ => none
  | n + 1 => fun f args h tg => match X f args with
    | some v => some (.ret v, h)
    | none => if rngF P f then astepI P D keep fuel (afunI P D keep fuel X n) f args h tg else astep P D keep fuel (afunI P D keep fuel X n) f args h tg
theorem afunI_ok (hP : noGoroutines P = true) (hm : P.follows .mixedOrders = true) {D : FT -> DT} (hD : ∀ F, FOk P F -> DOk P (D F)) (hDA : ∀ F, FOk P F -> DOkA P (D F)) {keep : FuncId -> Bool} {fuel : Nat} {X : XT} (hX : XOk P X) : ∀ n, FOk P (afunI P D keep fuel X n) := by
  intro n
  induction n with
  | zero => intro f args h tg res h' he; cases he
  | succ n ih =>
    intro f args h tg res h' he
    simp only [afunI] at he
    split at he
    · rename_i v hv
      cases he
      exact hX f args v hv h
    · split at he
      · exact astepI_ok hP hm hDA ih f args h tg res h' he
      · exact astep_ok hP hD ih f args h tg res h' he
end
end Go.Eng

namespace Go.Eng
section
variable {α : Type} {f : α -> List Value} {k : Nat} {h : AH} {e : TypeId} {v : Value} {xs : List α}
end
end Go.Eng

namespace Go.Eng
open Go.RowKit
def eqI (a b : Int) : Bool := match a, b with
  | .ofNat m, .ofNat n => Nat.beq m n
  | .negSucc m, .negSucc n => Nat.beq m n
  | _, _ => false
theorem eqI_ok {a b : Int} (h : eqI a b = true) : a = b := by
  cases a <;> cases b <;> simp only [eqI] at h
  · rw [Nat.eq_of_beq_eq_true h]
  · cases h
  · cases h
  · rw [Nat.eq_of_beq_eq_true h]
def eqN : List Nat -> List Nat -> Bool
  | [], [] => true
  | a :: l, b :: m => Nat.beq a b && eqN l m
  | _, _ => false
theorem eqN_ok : ∀ {l m : List Nat}, eqN l m = true -> l = m
  | [], [], _ => rfl
  | a :: l, b :: m, h => by
    simp only [eqN, Bool.and_eq_true] at h
    rw [Nat.eq_of_beq_eq_true h.1, eqN_ok h.2]
  | [], _ :: _, h => by cases h
  | _ :: _, [], h => by cases h
def eqB (a b : ByteArray) : Bool := eqN (a.data.toList.map UInt8.toNat) (b.data.toList.map UInt8.toNat)
theorem eqB_ok {a b : ByteArray} (h : eqB a b = true) : a = b := by
  have h1 := eqN_ok h
  have h2 : a.data.toList = b.data.toList := by
    have : ∀ {l m : List UInt8}, l.map UInt8.toNat = m.map UInt8.toNat -> l = m := by
      intro l
      induction l with
      | nil => intro m e; cases m with
        | nil => rfl
        | cons => cases e
      | cons x l ih => intro m e; cases m with
        | nil => cases e
        | cons y m =>
          simp only [List.map_cons, List.cons.injEq] at e
          rw [ih e.2, UInt8.toNat_inj.1 e.1]
    exact this h1
  obtain ⟨⟨a⟩⟩ := a
  obtain ⟨⟨b⟩⟩ := b
  simp only at h2
  rw [h2]
def eqO : Option Nat -> Option Nat -> Bool
  | none, none => true
  | some a, some b => Nat.beq a b
  | _, _ => false
theorem eqO_ok : ∀ {a b : Option Nat}, eqO a b = true -> a = b
  | none, none, _ => rfl
  | some a, some b, h => by rw [Nat.eq_of_beq_eq_true h]
  | none, some _, h => by cases h
  | some _, none, h => by cases h
def eqA : Option Addr -> Option Addr -> Bool
  | none, none => true
  | some ⟨a, o, l⟩, some ⟨a', o', l'⟩ => Nat.beq a a' && Nat.beq o o' && eqO l l'
  | _, _ => false
theorem eqA_ok : ∀ {a b : Option Addr}, eqA a b = true -> a = b
  | none, none, _ => rfl
  | some ⟨a, o, l⟩, some ⟨a', o', l'⟩, h => by
    simp only [eqA, Bool.and_eq_true] at h
    rw [Nat.eq_of_beq_eq_true h.1.1, Nat.eq_of_beq_eq_true h.1.2, eqO_ok h.2]
  | none, some _, h => by cases h
  | some _, none, h => by cases h
def eqK : IntKind -> IntKind -> Bool := fun a b => decide (a = b)
def eqL (f : Value -> Value -> Bool) : List Value -> List Value -> Bool
  | [], [] => true
  | a :: l, b :: m => f a b && eqL f l m
  | _, _ => false
theorem eqL_ok {f : Value -> Value -> Bool} (hf : ∀ a b, f a b = true -> a = b) : ∀ {l m : List Value}, eqL f l m = true -> l = m
  | [], [], _ => rfl
  | a :: l, b :: m, h => by
    simp only [eqL, Bool.and_eq_true] at h
    rw [hf _ _ h.1, eqL_ok hf h.2]
  | [], _ :: _, h => by cases h
  | _ :: _, [], h => by cases h
def eqV : Nat -> Value -> Value -> Bool
  | 0, _, _ => false
  | n + 1, a, b => match a, b with
    | .bool x, .bool y => x == y
    | .int k x, .int k' y => eqK k k' && eqI x y
    | .string x, .string y => eqB x y
    | .pointer x, .pointer y => eqA x y
    | .slice x l c, .slice y l' c' => eqA x y && Nat.beq l l' && Nat.beq c c'
    | .map x, .map y => eqO x y
    | .func (.func f) x y, .func (.func f') x' y' => Nat.beq f f' && eqL (eqV n) x.toList x'.toList && eqL (eqV n) y.toList y'.toList
    | .nilFunc, .nilFunc => true
    | .iface t x, .iface t' y => Nat.beq t t' && eqV n x y
    | .nilIface, .nilIface => true
    | .agg x, .agg y => eqL (eqV n) x.toList y.toList
    | .tuple x, .tuple y => eqL (eqV n) x.toList y.toList
    | _, _ => false
theorem eqV_ok : ∀ (n : Nat) (a b : Value), eqV n a b = true -> a = b := by
  intro n
  induction n with
  | zero => intro a b h; cases h
  | succ n ih =>
    intro a b h
    unfold eqV at h
    split at h
    · rw [beq_iff_eq.1 h]
    · simp only [Bool.and_eq_true] at h; rw [of_decide_eq_true h.1, eqI_ok h.2]
    · rw [eqB_ok h]
    · rw [eqA_ok h]
    · simp only [Bool.and_eq_true] at h; rw [eqA_ok h.1.1, Nat.eq_of_beq_eq_true h.1.2, Nat.eq_of_beq_eq_true h.2]
    · rw [eqO_ok h]
    · simp only [Bool.and_eq_true] at h
      rw [Nat.eq_of_beq_eq_true h.1.1, Array.toList_inj.1 (eqL_ok ih h.1.2), Array.toList_inj.1 (eqL_ok ih h.2)]
    · rfl
    · simp only [Bool.and_eq_true] at h; rw [Nat.eq_of_beq_eq_true h.1, ih _ _ h.2]
    · rfl
    · rw [Array.toList_inj.1 (eqL_ok ih h)]
    · rw [Array.toList_inj.1 (eqL_ok ih h)]
    · cases h
def eqBlk : Blk -> Blk -> Bool
  | .gone, .gone => true
  | .cells o s g d e cs, .cells o' s' g' d' e' cs' => o == o' && s == s' && Nat.beq g g' && Nat.beq d d' && Nat.beq e e' && eqL (eqV 8) cs cs'
  | .map es, .map es' => eqL (eqV 8) (es.map Prod.fst) (es'.map Prod.fst) && eqL (eqV 8) (es.map Prod.snd) (es'.map Prod.snd)
  | _, _ => false
theorem eqBlk_ok : ∀ {a b : Blk}, eqBlk a b = true -> a = b
  | .gone, .gone, _ => rfl
  | .cells o s g d e cs, .cells o' s' g' d' e' cs', h => by
    simp only [eqBlk, Bool.and_eq_true] at h
    obtain ⟨⟨⟨⟨⟨h1, h2⟩, h3⟩, h4⟩, h5⟩, h6⟩ := h
    rw [beq_iff_eq.1 h1, beq_iff_eq.1 h2, Nat.eq_of_beq_eq_true h3, Nat.eq_of_beq_eq_true h4, Nat.eq_of_beq_eq_true h5, eqL_ok (eqV_ok 8) h6]
  | .map es, .map es', h => by
    simp only [eqBlk, Bool.and_eq_true] at h
    have h1 := eqL_ok (eqV_ok 8) h.1
    have h2 := eqL_ok (eqV_ok 8) h.2
    have : ∀ {l m : List (Value × Value)}, l.map Prod.fst = m.map Prod.fst -> l.map Prod.snd = m.map Prod.snd -> l = m := by
      intro l
      induction l with
      | nil => intro m a _; cases m with
        | nil => rfl
        | cons => cases a
      | cons x l ih => intro m a b; cases m with
        | nil => cases a
        | cons y m =>
          simp only [List.map_cons, List.cons.injEq] at a b
          rw [ih a.2 b.2, Prod.ext a.1 b.1]
    rw [this h1 h2]
  | .gone, .cells .., h => by cases h
  | .gone, .map .., h => by cases h
  | .cells .., .gone, h => by cases h
  | .cells .., .map .., h => by cases h
  | .map .., .gone, h => by cases h
  | .map .., .cells .., h => by cases h
def eqH : AH -> AH -> Bool
  | [], [] => true
  | a :: l, b :: m => eqBlk a b && eqH l m
  | _, _ => false
theorem eqH_ok : ∀ {l m : AH}, eqH l m = true -> l = m
  | [], [], _ => rfl
  | a :: l, b :: m, h => by
    simp only [eqH, Bool.and_eq_true] at h
    rw [eqBlk_ok h.1, eqH_ok h.2]
  | [], _ :: _, h => by cases h
  | _ :: _, [], h => by cases h
structure Known where
  f : FuncId
  args : List Value
  h : AH
  res : Res
  h' : AH
def knownT : List Known -> FT
  | [], _, _, _, _ => none
  | k :: l, f, args, h, tg => if Nat.beq f k.f && Nat.beq h.length k.h.length && eqL (eqV 8) args k.args && eqH h k.h then some (k.res, k.h') else knownT l f args h tg
section
variable {P : Program}
theorem knownT_ok : ∀ {l : List Known}, (∀ k ∈ l, Holds P k.f k.args k.h k.res k.h') -> FOk P (knownT l) := by
  intro l
  induction l with
  | nil => intro _ f args h tg res h' he; cases he
  | cons k l ih =>
    intro hk f args h tg res h' he
    simp only [knownT] at he
    split at he
    · rename_i c
      simp only [Bool.and_eq_true] at c
      obtain ⟨⟨⟨c1, _⟩, c3⟩, c4⟩ := c
      cases he
      rw [Nat.eq_of_beq_eq_true c1, eqL_ok (eqV_ok 8) c3, eqH_ok c4]
      exact hk k List.mem_cons_self
    · exact ih (fun k hk' => hk k (List.mem_cons_of_mem _ hk')) f args h tg res h' he
def afunZ (P : Program) (D : FT -> DT) (keep : FuncId -> Bool) (fuel : Nat) (Z : FT) : Nat -> FT
  | 0 => fun _ _ _ _ => none
  | n + 1 => fun f args h tg => match Z f args h tg with
    | some v => some v
    | none => if rngF P f then astepI P D keep fuel (afunZ P D keep fuel Z n) f args h tg else astep P D keep fuel (afunZ P D keep fuel Z n) f args h tg
theorem afunZ_ok (hP : noGoroutines P = true) (hm : P.follows .mixedOrders = true) {D : FT -> DT} (hD : ∀ F, FOk P F -> DOk P (D F)) (hDA : ∀ F, FOk P F -> DOkA P (D F)) {keep : FuncId -> Bool} {fuel : Nat} {Z : FT} (hZ : FOk P Z) : ∀ n, FOk P (afunZ P D keep fuel Z n) := by
  intro n
  induction n with
  | zero => intro f args h tg res h' he; cases he
  | succ n ih =>
    intro f args h tg res h' he
    simp only [afunZ] at he
    split at he
    · rename_i v hv
      cases he
      exact hZ f args h tg _ _ hv
    · split at he
      · exact astepI_ok hP hm hDA ih f args h tg res h' he
      · exact astep_ok hP hD ih f args h tg res h' he
theorem calls_trueZ {f : FuncId} {fn : Func} {keep : FuncId -> Bool} {n fuel : Nat} {Z : FT} (hZ : FOk P Z) (hP : noGoroutines P = true) (hm : P.follows .mixedOrders = true) (hf : P.funcs[f]? = some fn) (hb : fn.body.isSome = true)
    (he : isTrue (afunZ P (adrawL P false) keep fuel Z n f [] [] none) = true) (w : World) (hT : TabOk P w.heap) :
    Calls P f #[] w fun e w' => e = .returned (.bool true) /\ Below w.heap.size w w' := by
  obtain ⟨h', he⟩ := isTrue_inv he
  obtain ⟨c, hc⟩ := Option.isSome_iff_exists.mp hb
  refine Calls.mono ((afunZ_ok hP hm (fun F hF => adrawL_ok hm hF) (fun F hF => adrawL_okA hm hF) hZ n).calls hP hf hc he (HR.empty P w.heap hT) (VL.nil _)) fun e w' h => ?_
  obtain ⟨v', r', rfl, st, hv⟩ := h
  exact ⟨by rw [hv.bool_inv], st.below⟩
abbrev runsTo (P : Program) (k : Known) : Prop := afunI P (adrawL P false) (fun _ => false) 400 (fun _ _ => none) 60 k.f k.args k.h none = some (k.res, k.h')
theorem runsTo.holds (hP : noGoroutines P = true) (hm : P.follows .mixedOrders = true) {k : Known} (h : runsTo P k) : Holds P k.f k.args k.h k.res k.h' :=
  (afunI_ok hP hm (fun F hF => adrawL_ok hm hF) (fun F hF => adrawL_okA hm hF) (fun f args v h => by cases h) 60).holds h
abbrev ad (b o : Nat) : Option Addr := some ⟨b, o, none⟩
abbrev bc (g e : Nat) (cs : List Value) : Blk := .cells true true g 0 e cs
end
end Go.Eng

namespace Go.S20
open Go Go.Eng Go.Proofs
def hb0 : AH := [bc 0 26 [.slice (ad 1 0) 1 1, .slice (ad 2 0) 3 3, .slice none 0 0, .slice (ad 3 0) 1 1, iv 0, .slice (ad 4 0) 5 5],
 bc 1 67 [iv 1, iv 1, iv 0, iv 0],
 bc 2 3 [iv 1, iv 0, iv 0],
 bc 3 3 [iv 0],
 bc 4 3 [iv 0, iv 0, iv 0, iv 0, iv 2],
 bc 5 26 [.slice (ad 1 0) 1 1, .slice (ad 2 0) 3 3, .slice none 0 0, .slice (ad 3 0) 1 1, iv 0, .slice (ad 4 0) 5 5],
 bc 6 26 [.slice (ad 1 0) 1 1, .slice (ad 2 0) 3 3, .slice none 0 0, .slice (ad 3 0) 1 1, iv 0, .slice (ad 4 0) 5 5],
 bc 7 26 [.slice (ad 1 0) 1 1, .slice (ad 2 0) 3 3, .slice none 0 0, .slice (ad 3 0) 1 1, iv 0, .slice (ad 4 0) 5 5],
 bc 8 23 [.slice (ad 15 0) 1 1],
 bc 9 36 [iv 0],
 bc 10 135 [.slice (ad 1 0) 1 1, .slice (ad 2 0) 3 3, .slice none 0 0, .slice (ad 3 0) 1 1, iv 0, .slice (ad 4 0) 5 5, iv 3],
 bc 11 67 [iv 1, iv 1, iv 0, iv 0],
 bc 12 138 [iv 1, iv 0],
 bc 13 138 [iv 1, iv 0],
 bc 14 3 [iv 3],
 bc 15 3 [iv 3],
 bc 16 3 [iv 0, iv 0, iv 0, iv 0, iv 2],
 bc 17 75 [iv 100, .slice (ad 60 0) 4 4],
 bc 18 26 [.slice (ad 1 0) 1 1, .slice (ad 2 0) 3 3, .slice none 0 0, .slice (ad 3 0) 1 1, iv 0, .slice (ad 4 0) 5 5],
 bc 19 26 [.slice (ad 1 0) 1 1, .slice (ad 2 0) 3 3, .slice none 0 0, .slice (ad 3 0) 1 1, iv 0, .slice (ad 4 0) 5 5],
 bc 20 26 [.slice (ad 1 0) 1 1, .slice (ad 2 0) 3 3, .slice none 0 0, .slice (ad 3 0) 1 1, iv 0, .slice (ad 4 0) 5 5],
 bc 21 23 [.slice (ad 28 0) 1 1],
 bc 22 36 [iv 0],
 bc 23 135 [.slice (ad 1 0) 1 1, .slice (ad 2 0) 3 3, .slice none 0 0, .slice (ad 3 0) 1 1, iv 0, .slice (ad 4 0) 5 5, iv 3],
 bc 24 67 [iv 1, iv 1, iv 0, iv 0],
 bc 25 138 [iv 1, iv 0],
 bc 26 138 [iv 1, iv 0],
 bc 27 3 [iv 3],
 bc 28 3 [iv 3],
 bc 29 143 [.slice (ad 54 0) 2 2, .slice none 0 0, iv 100, iv 0],
 .map [(iv 0, iv 2)],
 bc 31 94 [.pointer (ad 29 0), .slice (ad 33 0) 1 1, .slice none 0 0, .slice none 0 0, .slice none 0 0, iv 0, .slice (ad 35 0) 5 5, .map (some 30), .map none, .slice (ad 38 0) 1 1],
 .gone,
 bc 33 67 [iv 1, iv 1, iv 0, iv 0],
 .gone,
 bc 35 3 [iv 0, iv 0, iv 0, iv 0, iv 2],
 bc 36 50 [iv 3, iv 0],
 bc 37 50 [iv 3, iv 0],
 bc 38 50 [iv 3, iv 0],
 bc 39 54 [.slice (ad 41 0) 1 1, .slice (ad 43 0) 3 3, .slice none 0 0, .slice (ad 45 0) 1 1, iv 0, .slice none 0 0, .pointer (ad 31 0), .pointer (ad 17 0), iv 0, iv 3, iv 0, .slice none 0 0, iv 0, .string ⟨#[97]⟩, .bool false, .slice none 0 0, .slice none 0 0, .string ⟨#[]⟩, iv 0, .string ⟨#[]⟩, iv 0, iv 0, iv 0, iv 1, iv 0, iv 0],
 .gone,
 bc 41 67 [iv 1, iv 1, iv 0, iv 0],
 .gone,
 bc 43 3 [iv 1, iv 0, iv 0],
 .gone,
 bc 45 3 [iv 0],
 bc 46 46 [.pointer (ad 31 0)],
 bc 47 50 [iv 10, iv 0],
 bc 48 50 [iv 4, iv 0],
 bc 49 50 [iv 10, iv 0],
 .gone,
 bc 51 50 [iv 1, iv 0],
 bc 52 50 [iv 10, iv 0, iv 1, iv 0],
 bc 53 50 [iv 4, iv 0],
 bc 54 50 [iv 10, iv 0, iv 1, iv 0],
 bc 55 50 [iv 4, iv 0],
 .gone,
 bc 57 50 [iv 3, iv 0],
 bc 58 50 [iv 1, iv 1],
 bc 59 50 [iv 5, iv 4, iv 4, iv 0, iv 1, iv 1, iv 5, iv 3],
 bc 60 50 [iv 5, iv 4, iv 4, iv 0, iv 1, iv 1, iv 5, iv 3]]
def ha0 : AH := [bc 0 26 [.slice (ad 1 0) 1 1, .slice (ad 2 0) 3 3, .slice none 0 0, .slice (ad 3 0) 1 1, iv 0, .slice (ad 4 0) 5 5],
 bc 1 67 [iv 1, iv 1, iv 0, iv 0],
 bc 2 3 [iv 1, iv 0, iv 0],
 bc 3 3 [iv 0],
 bc 4 3 [iv 0, iv 0, iv 0, iv 0, iv 2],
 bc 5 26 [.slice (ad 1 0) 1 1, .slice (ad 2 0) 3 3, .slice none 0 0, .slice (ad 3 0) 1 1, iv 0, .slice (ad 4 0) 5 5],
 bc 6 26 [.slice (ad 1 0) 1 1, .slice (ad 2 0) 3 3, .slice none 0 0, .slice (ad 3 0) 1 1, iv 0, .slice (ad 4 0) 5 5],
 bc 7 26 [.slice (ad 1 0) 1 1, .slice (ad 2 0) 3 3, .slice none 0 0, .slice (ad 3 0) 1 1, iv 0, .slice (ad 4 0) 5 5],
 bc 8 23 [.slice (ad 15 0) 1 1],
 bc 9 36 [iv 0],
 bc 10 135 [.slice (ad 1 0) 1 1, .slice (ad 2 0) 3 3, .slice none 0 0, .slice (ad 3 0) 1 1, iv 0, .slice (ad 4 0) 5 5, iv 3],
 bc 11 67 [iv 1, iv 1, iv 0, iv 0],
 bc 12 138 [iv 1, iv 0],
 bc 13 138 [iv 1, iv 0],
 bc 14 3 [iv 3],
 bc 15 3 [iv 3],
 bc 16 3 [iv 0, iv 0, iv 0, iv 0, iv 2],
 bc 17 75 [iv 100, .slice (ad 60 0) 4 4],
 bc 18 26 [.slice (ad 1 0) 1 1, .slice (ad 2 0) 3 3, .slice none 0 0, .slice (ad 3 0) 1 1, iv 0, .slice (ad 4 0) 5 5],
 bc 19 26 [.slice (ad 1 0) 1 1, .slice (ad 2 0) 3 3, .slice none 0 0, .slice (ad 3 0) 1 1, iv 0, .slice (ad 4 0) 5 5],
 bc 20 26 [.slice (ad 1 0) 1 1, .slice (ad 2 0) 3 3, .slice none 0 0, .slice (ad 3 0) 1 1, iv 0, .slice (ad 4 0) 5 5],
 bc 21 23 [.slice (ad 28 0) 1 1],
 bc 22 36 [iv 0],
 bc 23 135 [.slice (ad 1 0) 1 1, .slice (ad 2 0) 3 3, .slice none 0 0, .slice (ad 3 0) 1 1, iv 0, .slice (ad 4 0) 5 5, iv 3],
 bc 24 67 [iv 1, iv 1, iv 0, iv 0],
 bc 25 138 [iv 1, iv 0],
 bc 26 138 [iv 1, iv 0],
 bc 27 3 [iv 3],
 bc 28 3 [iv 3],
 bc 29 143 [.slice (ad 54 0) 2 2, .slice none 0 0, iv 100, iv 0],
 .map [(iv 0, iv 2)],
 bc 31 94 [.pointer (ad 29 0), .slice (ad 33 0) 1 1, .slice none 0 0, .slice none 0 0, .slice none 0 0, iv 0, .slice (ad 35 0) 5 5, .map (some 30), .map none, .slice (ad 38 0) 1 1],
 .gone,
 bc 33 67 [iv 1, iv 1, iv 0, iv 0],
 .gone,
 bc 35 3 [iv 0, iv 0, iv 0, iv 0, iv 2],
 bc 36 50 [iv 3, iv 0],
 bc 37 50 [iv 3, iv 0],
 bc 38 50 [iv 3, iv 0],
 bc 39 54 [.slice (ad 41 0) 1 1, .slice (ad 43 0) 3 3, .slice none 0 0, .slice (ad 45 0) 1 1, iv 0, .slice none 0 0, .pointer (ad 31 0), .pointer (ad 17 0), iv 2, iv 3, iv 0, .slice none 0 0, iv 0, .string ⟨#[97]⟩, .bool false, .slice none 0 0, .slice none 0 0, .string ⟨#[]⟩, iv 0, .string ⟨#[]⟩, iv 0, iv 0, iv 0, iv 1, iv 0, iv 0],
 .gone,
 bc 41 67 [iv 1, iv 1, iv 0, iv 0],
 .gone,
 bc 43 3 [iv 1, iv 0, iv 0],
 .gone,
 bc 45 3 [iv 0],
 bc 46 46 [.pointer (ad 31 0)],
 bc 47 50 [iv 10, iv 0],
 bc 48 50 [iv 4, iv 0],
 bc 49 50 [iv 10, iv 0],
 .gone,
 bc 51 50 [iv 1, iv 0],
 bc 52 50 [iv 10, iv 0, iv 1, iv 0],
 bc 53 50 [iv 4, iv 0],
 bc 54 50 [iv 10, iv 0, iv 1, iv 0],
 bc 55 50 [iv 4, iv 0],
 .gone,
 bc 57 50 [iv 3, iv 0],
 bc 58 50 [iv 1, iv 1],
 bc 59 50 [iv 5, iv 4, iv 4, iv 0, iv 1, iv 1, iv 5, iv 3],
 bc 60 50 [iv 5, iv 4, iv 4, iv 0, iv 1, iv 1, iv 5, iv 3],
 bc 61 30 [.pointer (ad 39 0)],
 bc 62 4 [.bool true],
 bc 63 50 [iv 3, iv 0],
 bc 64 50 [iv 3, iv 0],
 bc 65 50 [iv 3, iv 0],
 bc 66 50 [iv 3, iv 0],
 bc 67 50 [iv 3, iv 0],
 bc 68 50 [iv 3, iv 0],
 bc 69 50 [iv 0, iv 0],
 bc 70 50 [iv 3, iv 0],
 bc 71 50 [iv 0, iv 0],
 bc 72 50 [iv 3, iv 0]]
def kn0 : Known := ⟨19, [.pointer (ad 39 0)], hb0, .ret (.bool true), ha0⟩
set_option maxRecDepth 100000 in
theorem run0 : afunI Tryz.prog (adrawL Tryz.prog false) (fun _ => false) 400 (fun _ _ => none) 60 kn0.f kn0.args kn0.h none = some (kn0.res, kn0.h') := by kernel_rfl
end Go.S20

namespace Go.S20
open Go Go.Eng Go.Proofs
def hb1 : AH := [bc 0 26 [.slice (ad 1 0) 1 1, .slice (ad 2 0) 3 3, .slice none 0 0, .slice (ad 3 0) 1 1, iv 0, .slice (ad 4 0) 5 5],
 bc 1 67 [iv 1, iv 1, iv 0, iv 0],
 bc 2 3 [iv 1, iv 0, iv 0],
 bc 3 3 [iv 0],
 bc 4 3 [iv 0, iv 0, iv 0, iv 0, iv 2],
 bc 5 26 [.slice (ad 1 0) 1 1, .slice (ad 2 0) 3 3, .slice none 0 0, .slice (ad 3 0) 1 1, iv 0, .slice (ad 4 0) 5 5],
 bc 6 26 [.slice (ad 1 0) 1 1, .slice (ad 2 0) 3 3, .slice none 0 0, .slice (ad 3 0) 1 1, iv 0, .slice (ad 4 0) 5 5],
 bc 7 26 [.slice (ad 1 0) 1 1, .slice (ad 2 0) 3 3, .slice none 0 0, .slice (ad 3 0) 1 1, iv 0, .slice (ad 4 0) 5 5],
 bc 8 23 [.slice (ad 15 0) 1 1],
 bc 9 36 [iv 0],
 bc 10 135 [.slice (ad 1 0) 1 1, .slice (ad 2 0) 3 3, .slice none 0 0, .slice (ad 3 0) 1 1, iv 0, .slice (ad 4 0) 5 5, iv 3],
 bc 11 67 [iv 1, iv 1, iv 0, iv 0],
 bc 12 138 [iv 1, iv 0],
 bc 13 138 [iv 1, iv 0],
 bc 14 3 [iv 3],
 bc 15 3 [iv 3],
 bc 16 3 [iv 0, iv 0, iv 0, iv 0, iv 2],
 bc 17 75 [iv 100, .slice (ad 60 0) 4 4],
 bc 18 26 [.slice (ad 1 0) 1 1, .slice (ad 2 0) 3 3, .slice none 0 0, .slice (ad 3 0) 1 1, iv 0, .slice (ad 4 0) 5 5],
 bc 19 26 [.slice (ad 1 0) 1 1, .slice (ad 2 0) 3 3, .slice none 0 0, .slice (ad 3 0) 1 1, iv 0, .slice (ad 4 0) 5 5],
 bc 20 26 [.slice (ad 1 0) 1 1, .slice (ad 2 0) 3 3, .slice none 0 0, .slice (ad 3 0) 1 1, iv 0, .slice (ad 4 0) 5 5],
 bc 21 23 [.slice (ad 28 0) 1 1],
 bc 22 36 [iv 0],
 bc 23 135 [.slice (ad 1 0) 1 1, .slice (ad 2 0) 3 3, .slice none 0 0, .slice (ad 3 0) 1 1, iv 0, .slice (ad 4 0) 5 5, iv 3],
 bc 24 67 [iv 1, iv 1, iv 0, iv 0],
 bc 25 138 [iv 1, iv 0],
 bc 26 138 [iv 1, iv 0],
 bc 27 3 [iv 3],
 bc 28 3 [iv 3],
 bc 29 143 [.slice (ad 54 0) 2 2, .slice none 0 0, iv 100, iv 0],
 .map [(iv 0, iv 2)],
 bc 31 94 [.pointer (ad 29 0), .slice (ad 33 0) 1 1, .slice none 0 0, .slice none 0 0, .slice none 0 0, iv 0, .slice (ad 35 0) 5 5, .map (some 30), .map none, .slice (ad 38 0) 1 1],
 .gone,
 bc 33 67 [iv 1, iv 1, iv 0, iv 0],
 .gone,
 bc 35 3 [iv 0, iv 0, iv 0, iv 0, iv 2],
 bc 36 50 [iv 3, iv 0],
 bc 37 50 [iv 3, iv 0],
 bc 38 50 [iv 3, iv 0],
 bc 39 54 [.slice (ad 41 0) 1 1, .slice (ad 43 0) 3 3, .slice none 0 0, .slice (ad 45 0) 1 1, iv 0, .slice none 0 0, .pointer (ad 31 0), .pointer (ad 17 0), iv 2, iv 3, iv 0, .slice none 0 0, iv 0, .string ⟨#[97]⟩, .bool false, .slice none 0 0, .slice none 0 0, .string ⟨#[]⟩, iv 0, .string ⟨#[]⟩, iv 1, iv 0, iv 0, iv 1, iv 0, iv 0],
 .gone,
 bc 41 67 [iv 1, iv 1, iv 0, iv 0],
 .gone,
 bc 43 3 [iv 1, iv 0, iv 0],
 .gone,
 bc 45 3 [iv 0],
 bc 46 46 [.pointer (ad 31 0)],
 bc 47 50 [iv 10, iv 0],
 bc 48 50 [iv 4, iv 0],
 bc 49 50 [iv 10, iv 0],
 .gone,
 bc 51 50 [iv 1, iv 0],
 bc 52 50 [iv 10, iv 0, iv 1, iv 0],
 bc 53 50 [iv 4, iv 0],
 bc 54 50 [iv 10, iv 0, iv 1, iv 0],
 bc 55 50 [iv 4, iv 0],
 .gone,
 bc 57 50 [iv 3, iv 0],
 bc 58 50 [iv 1, iv 1],
 bc 59 50 [iv 5, iv 4, iv 4, iv 0, iv 1, iv 1, iv 5, iv 3],
 bc 60 50 [iv 5, iv 4, iv 4, iv 0, iv 1, iv 1, iv 5, iv 3],
 bc 61 30 [.pointer (ad 39 0)],
 bc 62 4 [.bool true],
 bc 63 50 [iv 3, iv 0],
 bc 64 50 [iv 3, iv 0],
 bc 65 50 [iv 3, iv 0],
 bc 66 50 [iv 3, iv 0],
 bc 67 50 [iv 3, iv 0],
 bc 68 50 [iv 3, iv 0],
 bc 69 50 [iv 0, iv 0],
 bc 70 50 [iv 3, iv 0],
 bc 71 50 [iv 0, iv 0],
 bc 72 50 [iv 3, iv 0]]
def ha1 : AH := [bc 0 26 [.slice (ad 1 0) 1 1, .slice (ad 2 0) 3 3, .slice none 0 0, .slice (ad 3 0) 1 1, iv 0, .slice (ad 4 0) 5 5],
 bc 1 67 [iv 1, iv 1, iv 0, iv 0],
 bc 2 3 [iv 1, iv 0, iv 0],
 bc 3 3 [iv 0],
 bc 4 3 [iv 0, iv 0, iv 0, iv 0, iv 2],
 bc 5 26 [.slice (ad 1 0) 1 1, .slice (ad 2 0) 3 3, .slice none 0 0, .slice (ad 3 0) 1 1, iv 0, .slice (ad 4 0) 5 5],
 bc 6 26 [.slice (ad 1 0) 1 1, .slice (ad 2 0) 3 3, .slice none 0 0, .slice (ad 3 0) 1 1, iv 0, .slice (ad 4 0) 5 5],
 bc 7 26 [.slice (ad 1 0) 1 1, .slice (ad 2 0) 3 3, .slice none 0 0, .slice (ad 3 0) 1 1, iv 0, .slice (ad 4 0) 5 5],
 bc 8 23 [.slice (ad 15 0) 1 1],
 bc 9 36 [iv 0],
 bc 10 135 [.slice (ad 1 0) 1 1, .slice (ad 2 0) 3 3, .slice none 0 0, .slice (ad 3 0) 1 1, iv 0, .slice (ad 4 0) 5 5, iv 3],
 bc 11 67 [iv 1, iv 1, iv 0, iv 0],
 bc 12 138 [iv 1, iv 0],
 bc 13 138 [iv 1, iv 0],
 bc 14 3 [iv 3],
 bc 15 3 [iv 3],
 bc 16 3 [iv 0, iv 0, iv 0, iv 0, iv 2],
 bc 17 75 [iv 100, .slice (ad 60 0) 1 4],
 bc 18 26 [.slice (ad 1 0) 1 1, .slice (ad 2 0) 3 3, .slice none 0 0, .slice (ad 3 0) 1 1, iv 0, .slice (ad 4 0) 5 5],
 bc 19 26 [.slice (ad 1 0) 1 1, .slice (ad 2 0) 3 3, .slice none 0 0, .slice (ad 3 0) 1 1, iv 0, .slice (ad 4 0) 5 5],
 bc 20 26 [.slice (ad 1 0) 1 1, .slice (ad 2 0) 3 3, .slice none 0 0, .slice (ad 3 0) 1 1, iv 0, .slice (ad 4 0) 5 5],
 bc 21 23 [.slice (ad 28 0) 1 1],
 bc 22 36 [iv 0],
 bc 23 135 [.slice (ad 1 0) 1 1, .slice (ad 2 0) 3 3, .slice none 0 0, .slice (ad 3 0) 1 1, iv 0, .slice (ad 4 0) 5 5, iv 3],
 bc 24 67 [iv 1, iv 1, iv 0, iv 0],
 bc 25 138 [iv 1, iv 0],
 bc 26 138 [iv 1, iv 0],
 bc 27 3 [iv 3],
 bc 28 3 [iv 3],
 bc 29 143 [.slice (ad 54 0) 2 2, .slice none 0 0, iv 100, iv 0],
 .map [(iv 0, iv 2)],
 bc 31 94 [.pointer (ad 29 0), .slice (ad 33 0) 1 1, .slice none 0 0, .slice none 0 0, .slice none 0 0, iv 0, .slice (ad 35 0) 5 5, .map (some 30), .map none, .slice (ad 38 0) 1 1],
 .gone,
 bc 33 67 [iv 1, iv 1, iv 0, iv 0],
 .gone,
 bc 35 3 [iv 0, iv 0, iv 0, iv 0, iv 2],
 bc 36 50 [iv 3, iv 0],
 bc 37 50 [iv 3, iv 0],
 bc 38 50 [iv 3, iv 0],
 bc 39 54 [.slice (ad 41 0) 1 1, .slice (ad 43 0) 3 3, .slice none 0 0, .slice (ad 45 0) 1 1, iv 0, .slice none 0 0, .pointer (ad 31 0), .pointer (ad 17 0), iv 1, iv 1, iv 0, .slice (ad 91 0) 1 1, iv 0, .string ⟨#[97]⟩, .bool false, .slice none 0 0, .slice none 0 0, .string ⟨#[]⟩, iv 0, .string ⟨#[]⟩, iv 1, iv 0, iv 0, iv 1, iv 0, iv 0],
 .gone,
 bc 41 67 [iv 1, iv 1, iv 0, iv 0],
 .gone,
 bc 43 3 [iv 1, iv 0, iv 0],
 .gone,
 bc 45 3 [iv 0],
 bc 46 46 [.pointer (ad 31 0)],
 bc 47 50 [iv 10, iv 0],
 bc 48 50 [iv 4, iv 0],
 bc 49 50 [iv 10, iv 0],
 .gone,
 bc 51 50 [iv 1, iv 0],
 bc 52 50 [iv 10, iv 0, iv 1, iv 0],
 bc 53 50 [iv 4, iv 0],
 bc 54 50 [iv 10, iv 0, iv 1, iv 0],
 bc 55 50 [iv 4, iv 0],
 .gone,
 bc 57 50 [iv 3, iv 0],
 bc 58 50 [iv 1, iv 1],
 bc 59 50 [iv 5, iv 4, iv 4, iv 0, iv 1, iv 1, iv 5, iv 3],
 bc 60 50 [iv 5, iv 4, iv 0, iv 0, iv 0, iv 0, iv 0, iv 0],
 bc 61 30 [.pointer (ad 39 0)],
 bc 62 4 [.bool true],
 bc 63 50 [iv 3, iv 0],
 bc 64 50 [iv 3, iv 0],
 bc 65 50 [iv 3, iv 0],
 bc 66 50 [iv 3, iv 0],
 bc 67 50 [iv 3, iv 0],
 bc 68 50 [iv 3, iv 0],
 bc 69 50 [iv 0, iv 0],
 bc 70 50 [iv 3, iv 0],
 bc 71 50 [iv 0, iv 0],
 bc 72 50 [iv 3, iv 0],
 bc 73 30 [.pointer (ad 39 0)],
 bc 74 4 [.bool true],
 bc 75 50 [iv 3, iv 0],
 bc 76 50 [iv 5, iv 3],
 bc 77 50 [iv 5, iv 3],
 bc 78 50 [iv 3, iv 0],
 bc 79 50 [iv 3, iv 0],
 bc 80 50 [iv 3, iv 0],
 bc 81 50 [iv 0, iv 0],
 bc 82 50 [iv 3, iv 0],
 bc 83 50 [iv 0, iv 0],
 bc 84 50 [iv 1, iv 0],
 bc 85 50 [iv 1, iv 0],
 bc 86 50 [iv 1, iv 1],
 bc 87 50 [iv 1, iv 1],
 .gone,
 bc 89 50 [iv 4, iv 0, iv 1, iv 1, iv 5, iv 3],
 bc 90 51 [.slice none 0 0, .slice (ad 89 0) 1 3],
 bc 91 50 [iv 4, iv 0],
 bc 92 50 [iv 1, iv 0]]
def kn1 : Known := ⟨19, [.pointer (ad 39 0)], hb1, .ret (.bool true), ha1⟩
set_option maxRecDepth 100000 in
theorem run1 : afunI Tryz.prog (adrawL Tryz.prog false) (fun _ => false) 400 (fun _ _ => none) 60 kn1.f kn1.args kn1.h none = some (kn1.res, kn1.h') := by kernel_rfl
end Go.S20
