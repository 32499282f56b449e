/- The engine, part 23: code looked up ahead comes to what the model says. -/
import Derived.Test.YtoojhjhamhkmjaaLE22
set_option linter.unusedVariables false
set_option linter.unusedSimpArgs false
namespace Go.Eng
section
variable {P : Program} {keep : Bool} {nm : List Nat} {N : Nat} {r r' : Rho} {s : PS} {a : Act} {w w' : World}

theorem ops_upon {g : Operand → Option Value} {h : AH} {o : Oper} {K Kp : Value → AH → Prop} (hg : GR r g a) (hr : HR P r h w.heap) (hop : OpS P keep g h o K Kp) {Ka : Act → World → Prop} {Q : Exit → Act → World → Prop}
    (hK : ∀ v h', K v h' → ∀ v' w' r', Stp P r h w r' h' w' → VR r' v v' → Ka (a.put o.dst v') w')
    (hQ : ∀ v h', Kp v h' → ∀ v' w' r', Stp P r h w r' h' w' → VR r' v v' → Q (.panic [entry v']) a w') : o.upon P a Ka Q ((execOp a.eval o).run P w) := by
  cases hop with
  | rd res h1 k =>
    obtain ⟨v, _ | B⟩ := res
    · obtain ⟨v', w', h1, h2, h3⟩ := aread_ok (w := w) hg hr hr.free_end.2.1 h1
      rw [h1]
      exact hK v h k _ _ r (Stp.same hr h2) h3
    · obtain ⟨v', w', ob, x, h1, h2, h3, h4, h5, h6, h7, h8, h9, h10⟩ := aread_ok (w := w) hg hr hr.free_end.2.1 h1
      rw [h1]
      exact hK v _ k _ _ _ (Stp.push hr h6 h7 h2 h3 h4 h5) h10
  | wr v h' h0 h1 k =>
    obtain ⟨n, v', w', r', h1, h2, h3, h4⟩ := awrite_ok hg hr h1
    rw [h1]
    rcases h2 with rfl | ⟨rfl, rfl⟩
    · exact hK v h' k _ _ _ h3 h4
    · exact hK v h' k _ _ _ h3 h4
  | call c fo f first cap args res h' h0 h9 h1 h2 h3 h4 h5 h6 k =>
    obtain ⟨dst, op, type, pos, after, guard⟩ := o
    simp only at h1
    subst h1
    obtain ⟨f', c', e1, e2, e3⟩ := (hg _ _ h3).func_inv
    have hv := evs_ok hg h4
    rw [run_call h2 e1]
    refine h5 r w _ hr ?_ _ a Ka Q (fun v v' w' r' e st hvr => ?_) (fun v v' w' r' e st hvr => ?_)
    · simpa using (e2.append hv).append e3
    · subst e; cases k with | ret k => exact hK v h' k _ _ _ st hvr
    · subst e; cases k with | pan k => exact hQ v h' k _ _ _ st hvr
  | pan x t v h0 h9 h1 h2 k =>
    obtain ⟨dst, op, type, pos, after, guard⟩ := o
    simp only at h1
    subst h1
    obtain ⟨v', e1, e2⟩ := (hg _ _ h2).iface_inv
    have : (execOp a.eval ⟨dst, .panic x, type, pos, after, guard⟩).run P w = .halt (.panic (.iface t v')) w := by
      simp [execOp, e1, Instr.panic]
    rw [this]
    exact hQ _ h k _ _ r (.refl hr) (.iface e2)

theorem wpo_dfr {f : RX} {args : List RX} {e l : PE} {h : AH} {ds : List Dfr} {Kd : Dfr → Prop} {K Kp : Value → AH → Prop} (hw : wpo P keep nm e l h ds Kd K Kp (.dfr f args)) :
    ∃ fn first cap as, rx e l f = some (.func fn first cap) ∧ rxs e l args = some as ∧ Kd ⟨fn, cap.toList, first.toList ++ as⟩ := by
  obtain ⟨fv, h1, hw⟩ := vK_inv hw
  obtain ⟨as, h2, hw⟩ := vsK_inv hw
  cases fv <;> try exact hw.elim
  exact ⟨_, _, _, as, h1, h2, hw⟩

theorem resK_dfr {op : Op} {dst : Option Tmp} {type : TypeId} {pos : String} {after : Array Edge} {guard : Option (Nat × Bool)} {f : RX} {args : List RX} (hk : resK P nm ⟨dst, op, type, pos, after, guard⟩ = some (.dfr f args)) :
    ∃ c fo as', op = .defer c ∧ c.callee = .value fo ∧ resX nm fo = some f ∧ resXs nm c.args.toList = some as' ∧ as' = args := by
  have u : ∀ {x : Operand} {g : U}, res1 nm g x ≠ some (.dfr f args) := fun h => by obtain ⟨y, _, h2⟩ := res1_inv h; cases h2
  have b : ∀ {x y : Operand} {g : B}, res2 nm g x y ≠ some (.dfr f args) := fun h => by obtain ⟨y, _, _, _, h2⟩ := res2_inv h; cases h2
  have bd : ∀ {α : Type} {o : Option α} {g : α → Option RK}, (∀ x, g x ≠ some (.dfr f args)) → o.bind g ≠ some (.dfr f args) := fun hg h => by obtain ⟨x, _, h2⟩ := Option.bind_eq_some_iff.1 h; exact hg x h2
  have mp : ∀ {α : Type} {o : Option α} {g : α → RK}, (∀ x, g x ≠ .dfr f args) → o.map g ≠ some (.dfr f args) := fun hg h => by obtain ⟨x, _, h2⟩ := Option.map_eq_some_iff.1 h; exact hg x h2
  have no : ∀ {x : RK}, x ≠ .dfr f args → some x ≠ some (.dfr f args) := fun hg h => hg (Option.some.inj h)
  cases op
  case defer c =>
    simp only [resK] at hk
    split at hk
    · rename_i fo hcal
      split at hk
      · rename_i f' as' h1 h2
        cases hk
        exact ⟨c, fo, _, rfl, hcal, h1, h2, rfl⟩
      · cases hk
    · cases hk
  all_goals
    exfalso
    simp only [resK, resCall] at hk
  all_goals
    revert hk
    repeat' split
    all_goals first
      | exact u
      | exact b
      | exact bd fun _ => u
      | exact bd fun _ => b
      | exact mp (fun _ h => by cases h)
      | exact bd fun _ => mp (fun _ h => by cases h)
      | (intro _; contradiction)
      | exact no (fun h => by cases h)
      | exact (fun h => by cases h)

theorem wpr_ok {ops : Array Oper} {Φ : Out → PS → Prop} : ∀ (os : List Oper) {rl : List RO}, resOps P nm N ops os = some rl → ∀ {r : Rho} {s : PS} {a : Act} {w : World}, SP P nm N r s a w →
    wpr P keep nm Φ rl s.e s.l s.h s.ds → ∀ {Q : Exit → Act → World → Prop}, PP P nm N r s.h w Φ Q → wpList P ops Q os a w := by
  intro os
  induction os with
  | nil =>
    intro rl hl r s a w hs hw Q hQ
    cases hl
    exact hQ .norm _ hw _ _ _ r rfl (.refl hs.hr) ⟨hs.e, fun t v h => hs.l t v (look_take1 h), hs.en, fun t v h => hs.ln t v (look_take1 h), hs.sz, hs.hr, hs.ds⟩
  | cons o os ih =>
    intro rl hl r s a w hs hw Q hQ
    simp only [resOps] at hl
    split at hl
    case h_2 => cases hl
    case h_1 x xs hx hxs =>
      cases hl
      unfold resOp at hx
      split at hx
      case h_2 => cases hx
      case h_1 d g k hd hg hk =>
        cases hx
        simp only [wpr] at hw
        unfold wpList
        rcases resG_want hg hs hw with ⟨h1, h2⟩ | ⟨h1, h2⟩
        · rw [h1]
          simp only [if_true]
          refine .inl ?_
          by_cases hdf : ∃ f args, k = .dfr f args
          · obtain ⟨f, args, rfl⟩ := hdf
            obtain ⟨fn, first, cap, as, e1, e2, e3⟩ := wpo_dfr h2
            obtain ⟨dst, op, type, pos, after, guard⟩ := o
            have hop : ∃ c fo as', op = .defer c ∧ c.callee = .value fo ∧ resX nm fo = some f ∧ resXs nm c.args.toList = some as' ∧ as' = args := by
              exact resK_dfr hk
            obtain ⟨c, fo, as', rfl, hcal, hfo, has, rfl⟩ := hop
            obtain ⟨f', c', k1, k2, k3⟩ := (hs.rx hfo e1).func_inv
            have hv := evs_ok hs.gr (evs_gof GG.gof has e2)
            have hrun : (execOp a.eval ⟨dst, .defer c, type, pos, after, guard⟩).run P w = .ok (.defer { target := .fn fn c', args := f' ++ c.args.map a.eval }) w := by
              simp [execOp, resolve, hcal, k1, Deferred.ofValue]
            unfold Oper.wp
            rw [hrun]
            refine ih hxs (s := ⟨pe d s.e undef, pl d s.l undef, s.h, ⟨fn, cap.toList, first.toList ++ as⟩ :: s.ds⟩) (r := r) ?_ e3 hQ
            have h0 : SP P nm N r ⟨s.e, s.l, s.h, ⟨fn, cap.toList, first.toList ++ as⟩ :: s.ds⟩ { a with defers := { target := .fn fn c', args := f' ++ c.args.map a.eval } :: a.defers } w :=
              ⟨hs.e, hs.l, hs.en, hs.ln, hs.sz, hs.hr, ⟨⟨c', _, rfl, k3, by simpa using k2.append hv⟩, hs.ds⟩⟩
            exact h0.put hd (.refl hs.hr) (undef_vr r)
          · have hw' : wpk P keep nm s.e s.l s.h (fun v h' => wpr P keep nm Φ xs (pe d s.e v) (pl d s.l v) h' s.ds) (fun v h' => Φ (.pan v) ⟨[], [], h', s.ds⟩) k := by
              cases k <;> first | exact h2 | exact absurd ⟨_, _, rfl⟩ hdf
            refine ops_upon hs.gr hs.hr (wpk_ok hk hw') (fun v h' kk v' w' r' st hv => ?_) (fun v h' kk v' w' r' st hv => ?_)
            · exact ih hxs (hs.put hd st hv) kk (hQ.trans st)
            · exact hQ _ _ kk _ _ _ r' ⟨v', rfl, hv⟩ st ⟨fun t u h => (by cases h), fun t u h => (by cases h), fun t u h => (by cases h), fun t u h => (by cases h), hs.sz, st.hr, hs.ds.mono st.le⟩
        · rw [h1]
          simp only [Bool.false_eq_true, if_false]
          exact ih hxs (hs.put hd (.refl hs.hr) (undef_vr r)) h2 hQ

/-- What a region looks at that stands ahead of it. -/
def needOf (nm : List Nat) (ops : Array Oper) : List RX :=
  ((ops.toList.zipIdx.flatMap fun (o, i) => (o.looksAt ops).filter fun t => !(ops.toList.take i).any fun o' => o'.dst == some t).eraseDups).map fun t => if nm.contains t then .n t else .t t

/-- May an operation write, or lay a block? -/
def potK : RK → Bool
  | .u (.bx _) _ | .u (.s2b _) _ => true
  | .u _ _ | .b _ _ _ | .pk _ _ _ | .bld _ _ | .mkf _ _ _ | .sls _ _ _ | .sll _ _ _ _ _ => false
  | _ => true
/-- Does it lay a block and nothing else? -/
def alK : RK → Bool
  | .u (.bx _) _ | .al _ _ | .bsl _ _ _ _ | .mm => true
  | _ => false
/-- Does it write in any case? -/
def sureK (o : RO) : Bool := o.g.isNone && match o.k with
  | .st _ _ _ | .call _ _ => true
  | _ => false
def ldK : RK → Bool
  | .u f _ => isLd f
  | _ => false
/-- It reads, but looks at no block. -/
def freeU : U → Bool
  | .mv | .fa _ | .fd _ | .fdn _ _ | .ex _ | .nk | .nt | .ng | .cv _ | .lenS | .lenL | .ifc _ | .asn _ _ _ => true
  | _ => false
def freeB : B → Bool
  | .lk _ _ _ => false
  | _ => true
def freeK : RK → Bool
  | .u f _ => freeU f
  | .b f _ _ => freeB f
  | .pk _ _ _ | .bld _ _ | .mkf _ _ _ => true
  | _ => false
def badK : RK → Bool
  | .raw _ | .dfr _ _ | .pan _ => true
  | _ => false

def bitA (A : List Nat) (i j : Nat) : Bool := ((A[i]?).getD 0).testBit j

/-- Is there a sure writer between two places that is tied to a third one? -/
def sureBet (A : List Nat) (rl : List RO) (lo hi : Nat) (tied : Nat → Bool) : Bool := rl.zipIdx.any fun (o, j) => decide (lo < j) && decide (j < hi) && sureK o && tied j

def annot (A : List Nat) (rl : List RO) : List DO :=
  rl.zipIdx.map fun (o, i) =>
    { o := o, i := i, w := potK o.k
      chk := if potK o.k then (rl.zipIdx.filterMap fun (o', j) => if decide (j < i) && ldK o'.k && !bitA A i j && !sureBet A rl j i (fun q => bitA A q j) then some j else none) else []
      old := if ldK o.k then (rl.zipIdx.filterMap fun (o', j) => if decide (j < i) && potK o'.k && !bitA A i j && !sureBet A rl j i (fun q => bitA A i q) then some j else none) else [] }

def callOf : Oper → Option (Option FuncId) := fun o => match o.op with
  | .call c => match c.callee with
    | .value (.func f) => some (some f)
    | .value _ => some none
    | _ => none
  | _ => none
def callsOk : List Oper → Bool
  | [] => true
  | o :: os => (match callOf o with
    | none => true
    | some (some f) => os.all fun o' => match callOf o' with
      | some (some f') => f' != f
      | some none => false
      | none => true
    | some none => os.all fun o' => (callOf o').isNone) && callsOk os

def wrK : RK → Bool
  | .st _ _ _ | .app _ _ _ _ _ _ _ | .clr _ _ _ | .cpy _ _ _ _ | .mup _ _ _ _ | .call _ _ => true
  | _ => false
def noWr (o : Oper) : Bool := match o.op with
  | .store _ _ _ | .mapUpdate _ _ _ _ | .insert _ _ _ _ | .panic _ => false
  | .call c => match c.callee with
    | .builtin .append | .builtin .clear | .builtin .delete | .builtin .copy | .value _ => false
    | _ => true
  | _ => true
def noRd (o : Oper) : Bool := match o.op with
  | .store _ _ _ | .mapUpdate _ _ _ _ | .insert _ _ _ _ => true
  | .call c => match c.callee with
    | .builtin .append | .builtin .clear | .builtin .delete | .builtin .copy | .value _ => true
    | _ => false
  | _ => false
def ldOk (P : Program) (o : Oper) (k : RK) : Bool := match k with
  | .u .ld _ => match o.op with
    | .load t _ => isAggT P t == some false
    | _ => false
  | .u (.ldn n) _ => match o.op with
    | .load t _ => isAggT P t == some true && sizeT P t == some n
    | _ => false
  | _ => true
def notSel1 (o : Oper) : Bool := match o.op with
  | .select _ _ => false
  | _ => true
/-- What is asked of an operation. -/
def opOk (P : Program) (o : Oper) (k : RK) : Bool := !badK k && (wrK k || noWr o) && (!wrK k || noRd o) && (alK k == allocOp o) && ldOk P o k && notSel1 o

/-- What is asked of a region that draws its order. -/
def drawS (P : Program) (ops : Array Oper) (A : List Nat) (rl : List RO) : Bool :=
  (ops.toList.zip rl).all (fun p => opOk P p.1 p.2.k) && callsOk ops.toList &&
  -- writers stand in a chain
  rl.zipIdx.all (fun (o, j) => !potK o.k || alK o.k || rl.zipIdx.all fun (o', i) => !decide (i < j) || !potK o'.k || bitA A j i) &&
  -- what hangs on a block that is laid hangs on all writers ahead of it
  rl.zipIdx.all (fun (o, a) => !alK o.k || (List.range rl.length).all fun i => !bitA A i a || rl.zipIdx.all fun (o', j) => !decide (j < a) || !potK o'.k || bitA A i j) &&
  -- reads
  rl.zipIdx.all (fun (o, i) => potK o.k || freeK o.k || ldK o.k || rl.zipIdx.all fun (o', j) => !potK o'.k || bitA A i j || bitA A j i)

/-- May it panic? -/
def panS (A : List Nat) (rl : List RO) : Bool := rl.zipIdx.all fun (o, i) => match o.k with
  | .call _ _ => (List.range rl.length).all fun j => !decide (i < j) || bitA A j i
  | _ => true

/-- Code looked up ahead. -/
def resC (P : Program) (nm : List Nat) (N : Nat) (D : Array Oper → Bool) : Code → Option RC
  | .skip => some .skip
  | .ret => some .ret
  | .exit id => some (.exit id)
  | .region _ ops false => (resOps P nm N ops ops.toList).map .rg
  | .region _ ops true => if D ops then (resOps P nm N ops ops.toList).bind fun rl => if drawS P ops (ancs ops.toList) rl then some (.dr (needOf nm ops) (!panS (ancs ops.toList) rl) (annot (ancs ops.toList) rl)) else none else none
  | .seq a b => match resC P nm N D a, resC P nm N D b with
    | some x, some y => some (.sq x y)
    | _, _ => none
  | .cond c t e => match resX nm c, resC P nm N D t, resC P nm N D e with
    | some c, some x, some y => some (.ite c x y)
    | _, _, _ => none
  | .block id b => (resC P nm N D b).map (.blk id)
  | .loop b => (resC P nm N D b).map .loop
  | .scope b => resC P nm N D b
  | _ => none

/-- A region that draws its order does as one that doesn't. -/
def DrawOk (P : Program) (keep : Bool) (nm : List Nat) (N : Nat) (D : Array Oper → Bool) : Prop :=
  ∀ (ops : Array Oper) (rl : List RO), D ops = true → resOps P nm N ops ops.toList = some rl → drawS P ops (ancs ops.toList) rl = true → ∀ (id : Nat) (Φ : Out → PS → Prop) (r : Rho) (s : PS) (a : Act) (w : World), SP P nm N r s a w → (∃ vs, rxs s.e s.l (needOf nm ops) = some vs) → wpd P keep nm (if !panS (ancs ops.toList) rl then npK Φ else Φ) (annot (ancs ops.toList) rl) [] [] s.e s.l s.h s.ds →
    ∀ (Q : Exit → Act → World → Prop), PP P nm N r s.h w Φ Q → (Code.region id ops true).wp P Q a w

theorem loopN_ok {b : Code} {body : (Out → PS → Prop) → PS → Prop} (hb : ∀ (Φ : Out → PS → Prop) (r : Rho) (s : PS) (a : Act) (w : World), SP P nm N r s a w → body Φ s → ∀ (Q : Exit → Act → World → Prop), PP P nm N r s.h w Φ Q → b.wp P Q a w)
    {Φ : Out → PS → Prop} : ∀ (n : Nat) (r : Rho) (s : PS) (a : Act) (w : World), SP P nm N r s a w → loopN body Φ n s → ∀ (Q : Exit → Act → World → Prop), PP P nm N r s.h w Φ Q → Code.rounds P b Q n a w := by
  intro n
  induction n with
  | zero => intro r s a w hs h; exact h.elim
  | succ n ih =>
    intro r s a w hs h Q hQ
    rw [rounds_succ]
    obtain ⟨s0, hl, h⟩ := h
    have hs0 : SP P nm N r s0 a w := ⟨fun t v hv => hs.e t v (hl.e t v hv), fun t v hv => hs.l t v (hl.l t v hv), fun t v hv => hs.en t v (hl.e t v hv), fun t v hv => hs.ln t v (hl.l t v hv), hs.sz, by rw [hl.h]; exact hs.hr, by rw [hl.ds]; exact hs.ds⟩
    rw [← hl.h] at hQ
    refine hb _ r s0 a w hs0 h _ (fun out s' hp ex a' w' r' ho st sr => ?_)
    cases out with
    | norm => cases ho; exact ih r' s' a' w' sr hp Q (hQ.trans st)
    | exit id => cases ho; exact hQ (.exit id) s' hp _ _ _ r' rfl st sr
    | ret => cases ho; exact hQ .ret s' hp _ _ _ r' rfl st sr
    | pan v => obtain ⟨v', rfl, hv⟩ := ho; exact hQ (.pan v) s' hp _ _ _ r' ⟨v', rfl, hv⟩ st sr

theorem wpc_ok {D : Array Oper → Bool} (hD : DrawOk P keep nm N D) : ∀ (c : Code) {rc : RC}, resC P nm N D c = some rc → ∀ (Φ : Out → PS → Prop) (r : Rho) (s : PS) (a : Act) (w : World), SP P nm N r s a w → wpc P keep nm rc Φ s →
    ∀ (Q : Exit → Act → World → Prop), PP P nm N r s.h w Φ Q → c.wp P Q a w := by
  intro c
  induction c with
  | skip => intro rc hc Φ r s a w hs hw Q hQ; cases hc; exact wp_skip (hQ .norm s hw _ _ _ r rfl (.refl hs.hr) hs)
  | ret => intro rc hc Φ r s a w hs hw Q hQ; cases hc; exact wp_ret (hQ .ret s hw _ _ _ r rfl (.refl hs.hr) hs)
  | exit id => intro rc hc Φ r s a w hs hw Q hQ; cases hc; exact wp_exit (hQ (.exit id) s hw _ _ _ r rfl (.refl hs.hr) hs)
  | region id ops d =>
    intro rc hc Φ r s a w hs hw Q hQ
    cases d with
    | false =>
      obtain ⟨rl, h1, rfl⟩ := Option.map_eq_some_iff.1 hc
      exact wp_region_list (wpr_ok ops.toList h1 hs hw hQ)
    | true =>
      simp only [resC] at hc
      split at hc
      case isFalse => cases hc
      case isTrue hd =>
        obtain ⟨rl, h1, hc⟩ := Option.bind_eq_some_iff.1 hc
        split at hc
        case isFalse => cases hc
        case isTrue hds =>
          cases hc
          obtain ⟨vs, h2, hw⟩ := vsK_inv hw
          exact hD ops rl hd h1 hds id Φ r s a w hs ⟨vs, h2⟩ hw Q hQ
  | seq x y ihx ihy =>
    intro rc hc Φ r s a w hs hw Q hQ
    simp only [resC] at hc
    split at hc
    case h_2 => cases hc
    case h_1 x' y' hx hy =>
      cases hc
      refine wp_seq (ihx hx _ r s a w hs hw _ (fun out s' hp ex a' w' r' ho st sr => ?_))
      cases out with
      | norm => cases ho; exact ihy hy Φ r' s' a' w' sr hp Q (hQ.trans st)
      | exit id => cases ho; exact hQ (.exit id) s' hp _ _ _ r' rfl st sr
      | ret => cases ho; exact hQ .ret s' hp _ _ _ r' rfl st sr
      | pan v => obtain ⟨v', rfl, hv⟩ := ho; exact hQ (.pan v) s' hp _ _ _ r' ⟨v', rfl, hv⟩ st sr
  | cond x t e iht ihe =>
    intro rc hc Φ r s a w hs hw Q hQ
    simp only [resC] at hc
    split at hc
    case h_2 => cases hc
    case h_1 x' t' e' hx ht he =>
      cases hc
      obtain ⟨v, hv, hw⟩ := vK_inv hw
      obtain ⟨b, rfl, hw⟩ := bK_inv hw
      have hval := (hs.rx hx hv).bool_inv
      rcases br_inv hw with ⟨rfl, h⟩ | ⟨rfl, h⟩
      · exact wp_cond_true hval (iht ht Φ r s a w hs h Q hQ)
      · exact wp_cond_false hval (ihe he Φ r s a w hs h Q hQ)
  | block id b ih =>
    intro rc hc Φ r s a w hs hw Q hQ
    obtain ⟨b', h1, rfl⟩ := Option.map_eq_some_iff.1 hc
    refine wp_block (ih h1 _ r s a w hs hw _ (fun out s' hp ex a' w' r' ho st sr => ?_))
    cases out with
    | norm => cases ho; exact hQ .norm s' hp _ _ _ r' rfl st sr
    | exit i =>
      cases ho
      simp only [Exit.inBlock]
      simp only [blkK] at hp
      split at hp
      · rename_i hid; subst hid; rw [if_pos rfl]; exact hQ .norm s' hp _ _ _ r' rfl st sr
      · rename_i hid; rw [if_neg hid]; exact hQ (.exit i) s' hp _ _ _ r' rfl st sr
    | ret => cases ho; exact hQ .ret s' hp _ _ _ r' rfl st sr
    | pan v => obtain ⟨v', rfl, hv⟩ := ho; exact hQ (.pan v) s' hp _ _ _ r' ⟨v', rfl, hv⟩ st sr
  | loop b ih =>
    intro rc hc Φ r s a w hs hw Q hQ
    obtain ⟨b', h1, rfl⟩ := Option.map_eq_some_iff.1 hc
    obtain ⟨n, hw⟩ := hw
    exact wp_loop_rounds n (loopN_ok (fun Φ r s a w hs h Q hQ => ih h1 Φ r s a w hs h Q hQ) n r s a w hs hw Q hQ)
  | scope b ih =>
    intro rc hc Φ r s a w hs hw Q hQ
    refine wp_scope_straight (ih hc Φ r s a w hs hw _ (fun out s' hp ex a' w' r' ho st sr => ?_))
    cases out with
    | norm => cases ho; exact hQ .norm s' hp _ _ _ r' rfl st sr
    | exit id => cases ho; exact hQ (.exit id) s' hp _ _ _ r' rfl st sr
    | ret => cases ho; exact hQ .ret s' hp _ _ _ r' rfl st sr
    | pan v => obtain ⟨v', rfl, hv⟩ := ho; exact hQ (.pan v) s' hp _ _ _ r' ⟨v', rfl, hv⟩ st sr
  | _ => intro rc hc; cases hc

end
end Go.Eng
