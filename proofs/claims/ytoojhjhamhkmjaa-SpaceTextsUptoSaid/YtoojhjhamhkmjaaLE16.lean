/- The engine, part 16: proofs by hand upon the engine: what a function comes to at one place, what a piece of code comes to from one state, tables of functions. -/
import Derived.Test.YtoojhjhamhkmjaaLE15
set_option linter.unusedVariables false
set_option linter.unusedSimpArgs false
namespace Go.Eng
open Go.RowKit

/-- What a function comes to at one place. -/
def Holds (P : Program) (f : FuncId) (args : List Value) (h : AH) (res : Res) (h' : AH) : Prop :=
  ∀ (r : Rho) (w : World) (args' : Array Value), HR P r h w.heap → VL r args args'.toList →
  ∀ (o : Oper) (a : Act) (K : Act → World → Prop) (Q : Exit → Act → World → Prop),
    (∀ v v' w' r', res = .ret v → Stp P r h w r' h' w' → VR r' v v' → K (a.put o.dst v') w') →
    (∀ v v' w' r', res = .pan v → Stp P r h w r' h' w' → VR r' v v' → Q (.panic [entry v']) a w') →
    o.upon P a K Q ((callFunc f args').run P w)

theorem FOk.holds {P : Program} {F : FT} (hF : FOk P F) {f : FuncId} {args : List Value} {h h' : AH} {res : Res} (he : F f args h = some (res, h')) : Holds P f args h res h' :=
  fun r w args' hr ha o a K Q hK hQ => hF f args h res h' he r w args' hr ha o a K Q hK hQ

def noF : FT := fun _ _ _ => none
theorem noF_ok (P : Program) : FOk P noF := fun f args h res h' he => by cases he

def FT.upd (F : FT) (f : FuncId) (g : List Value → AH → Option (Res × AH)) : FT := fun f' args h => if f' = f then g args h else F f' args h

theorem FOk.upd {P : Program} {F : FT} (hF : FOk P F) {f : FuncId} {g : List Value → AH → Option (Res × AH)} (hg : ∀ args h res h', g args h = some (res, h') → Holds P f args h res h') : FOk P (F.upd f g) := by
  intro f' args h res h' he
  unfold FT.upd at he
  split at he
  · rename_i e; subst e
    exact hg args h res h' he
  · exact hF f' args h res h' he

/-- A closed run holds over any heap. -/
theorem Holds.closed {P : Program} {f : FuncId} {args : List Value} {h1 : AH} {v : Value} (hc : Holds P f args [] (.ret v) h1) (hv : scal 8 v = true) (ha : args.all (scal 8) = true) (h : AH) : Holds P f args h (.ret v) h := by
  intro r w args' hr hargs o a K Q hK hQ
  have hargs' : args' = args.toArray := all_scal_eq ha hargs
  subst hargs'
  have h0 : VL (fun _ => none : Rho) args args.toArray.toList := by
    have h1 : args.toArray.toList.all (scal 8) = true := by simpa using ha
    have := all_refl (r := (fun _ => none : Rho)) (fun v => scal_refl 8 v) h1
    simpa using this
  refine hc (fun _ => none) w args.toArray (HR.empty P w.heap) h0 o a K Q (fun v1 v' w' r' e st hvr => ?_) (fun v1 v' w' r' e => by cases e)
  cases e
  rw [scal_eq 8 v v' hv hvr]
  have hb := st.below
  refine hK v v w' r rfl ⟨.refl r, ⟨fun b x e => ?_, fun b B e hl => ?_, hr.sep⟩, ⟨hb.os, hb.tape, hb.output, hb.size, fun k hk _ => hb.block k hk⟩, fun b B x e hl hx _ => ⟨b, B, x, e, hl, hx, rfl, id⟩, Nat.le_refl _, fun _ h => h⟩ (scal_refl 8 v hv)
  · have := hr.dom b x e
    exact ⟨this.1, Nat.lt_of_lt_of_le this.2 hb.size⟩
  · obtain ⟨x, e1, e2⟩ := hr.blk b B e hl
    exact ⟨x, e1, by rw [hb.block _ (hr.dom b x e1).2]; exact e2⟩

/-! ### What code comes to -/

def Does (P : Program) (c : Code) (s : St) (out : Out) (s' : St) : Prop :=
  ∀ (r : Rho) (a : Act) (w : World) (Q : Exit → Act → World → Prop), SR P r s a w → Post P r s.h w out s' Q → c.wp P Q a w

section
variable {P : Program} {s s1 s' : St} {out : Out}

theorem Does.run {F : FT} (hF : FOk P F) (hm : P.follows .mixedOrders = true) (keep : Bool) (n : Nat) {c : Code} (he : acode P F (adraw P keep F) keep n c s = some (out, s')) : Does P c s out s' :=
  fun r a w Q hs hQ => acode_ok hF (adraw_ok hm hF) n c s s' out he r a w Q hs hQ

theorem Does.skip : Does P .skip s .norm s := fun r a w Q hs hQ => wp_skip (hQ _ _ _ r rfl (.refl hs.hr) hs)
theorem Does.ret : Does P .ret s .ret s := fun r a w Q hs hQ => wp_ret (hQ _ _ _ r rfl (.refl hs.hr) hs)
theorem Does.exit (id : Nat) : Does P (.exit id) s (.exit id) s := fun r a w Q hs hQ => wp_exit (hQ _ _ _ r rfl (.refl hs.hr) hs)

theorem Does.region {F : FT} (hF : FOk P F) (keep : Bool) {id : Nat} {ops : Array Oper} (he : aops P F keep ops ops.toList s = some (out, s')) : Does P (.region id ops false) s out s' :=
  fun r a w Q hs hQ => wp_region_list (aops_ok hF _ hs he hQ)

theorem Does.draw {F : FT} (hF : FOk P F) (hm : P.follows .mixedOrders = true) (keep : Bool) {id : Nat} {ops : Array Oper} (he : adraw P keep F ops s = some (out, s')) : Does P (.region id ops true) s out s' :=
  fun r a w Q hs hQ => adraw_ok hm hF ops s s' out he r a w id Q hs hQ

theorem Does.seq {x y : Code} (h : Does P x s .norm s1) (k : Does P y s1 out s') : Does P (.seq x y) s out s' :=
  fun r a w Q hs hQ => wp_seq (h r a w _ hs fun e a' w' r' ho st sr => by cases ho; exact k r' a' w' Q sr (hQ.trans st))

theorem Does.seq_out {x y : Code} (h : Does P x s out s') (hn : out ≠ .norm) : Does P (.seq x y) s out s' :=
  fun r a w Q hs hQ => wp_seq (h r a w _ hs fun e a' w' r' ho st sr => by
    cases out with
    | norm => exact absurd rfl hn
    | exit id => cases ho; exact hQ _ _ _ r' rfl st sr
    | ret => cases ho; exact hQ _ _ _ r' rfl st sr
    | pan v => obtain ⟨v', rfl, hv⟩ := ho; exact hQ _ _ _ r' ⟨v', rfl, hv⟩ st sr)

theorem Does.cond {c : Operand} {t e : Code} {b : Bool} (hc : ev s.env c = some (.bool b)) (h : Does P (if b then t else e) s out s') : Does P (.cond c t e) s out s' := by
  intro r a w Q hs hQ
  cases b with
  | true => exact wp_cond_true (ev_ok hs.env hc).bool_inv (h r a w Q hs hQ)
  | false => exact wp_cond_false (ev_ok hs.env hc).bool_inv (h r a w Q hs hQ)

def blockOut (id : Nat) : Out → Out
  | .exit i => if i = id then .norm else .exit i
  | x => x

theorem Does.block {id : Nat} {b : Code} (h : Does P b s out s') : Does P (.block id b) s (blockOut id out) s' :=
  fun r a w Q hs hQ => wp_block (h r a w _ hs fun e a' w' r' ho st sr => by
    cases out with
    | norm => cases ho; exact hQ _ _ _ r' rfl st sr
    | exit i =>
      cases ho
      simp only [Exit.inBlock]
      split
      · rename_i hid
        subst hid
        exact hQ _ _ _ r' (by simp [OE, blockOut]) st sr
      · rename_i hid
        exact hQ _ _ _ r' (by simp [OE, hid, blockOut]) st sr
    | ret => cases ho; exact hQ _ _ _ r' rfl st sr
    | pan v => obtain ⟨v', rfl, hv⟩ := ho; exact hQ _ _ _ r' ⟨v', rfl, hv⟩ st sr)

theorem Does.scope {b : Code} (h : Does P b s out s') : Does P (.scope b) s out s' :=
  fun r a w Q hs hQ => wp_scope_straight (h r a w _ hs fun e a' w' r' ho st sr => by
    cases out with
    | norm => cases ho; exact hQ _ _ _ r' rfl st sr
    | exit id => cases ho; exact hQ _ _ _ r' rfl st sr
    | ret => cases ho; exact hQ _ _ _ r' rfl st sr
    | pan v => obtain ⟨v', rfl, hv⟩ := ho; exact hQ _ _ _ r' ⟨v', rfl, hv⟩ st sr)

/-- The rounds of a loop. -/
inductive Rounds (P : Program) (b : Code) : Nat → St → Out → St → Prop
  | last {s s' : St} {out : Out} (h : Does P b s out s') (hn : out ≠ .norm) : Rounds P b 1 s out s'
  | more {n : Nat} {s s1 s' : St} {out : Out} (h : Does P b s .norm s1) (k : Rounds P b n s1 out s') : Rounds P b (n + 1) s out s'

theorem Rounds.wp {b : Code} {n : Nat} (h : Rounds P b n s out s') : ∀ (r : Rho) (a : Act) (w : World) (Q : Exit → Act → World → Prop), SR P r s a w → Post P r s.h w out s' Q → Code.rounds P b Q n a w := by
  induction h with
  | last h hn =>
    rename_i s s' out
    intro r a w Q hs hQ
    rw [rounds_succ]
    refine h r a w _ hs (fun e a' w' r' ho st sr => ?_)
    cases out with
    | norm => exact absurd rfl hn
    | exit id => cases ho; exact hQ _ _ _ r' rfl st sr
    | ret => cases ho; exact hQ _ _ _ r' rfl st sr
    | pan v => obtain ⟨v', rfl, hv⟩ := ho; exact hQ _ _ _ r' ⟨v', rfl, hv⟩ st sr
  | more h k ih =>
    intro r a w Q hs hQ
    rw [rounds_succ]
    refine h r a w _ hs (fun e a' w' r' ho st sr => ?_)
    cases ho
    exact ih r' a' w' Q sr (hQ.trans st)

theorem Does.loop {b : Code} {n : Nat} (h : Rounds P b n s out s') : Does P (.loop b) s out s' :=
  fun r a w Q hs hQ => wp_loop_rounds n (h.wp r a w Q hs hQ)

/-- A function without deferred calls. -/
theorem Holds.body (hP : noGoroutines P = true) {f : FuncId} {fn : Func} {c : Code} (hf : P.funcs[f]? = some fn) (hb : fn.body = some c) {args : List Value} {h h' : AH} {env : List Value} {vs : List Value}
    (hd : Does P c ⟨args ++ List.replicate (fn.ntmps - args.length) undef, h, []⟩ out ⟨env, h', []⟩) (ho : out = .norm ∨ out = .ret) (hv : ares P env h' fn.results.toList = some vs) : Holds P f args h (.ret (tup vs)) h' := by
  intro r w args' hr hargs o a K Q hK hQ
  rw [run_callFunc hP hf hb]
  have start : SR P r ⟨args ++ List.replicate (fn.ntmps - args.length) undef, h, []⟩ { tmps := args' ++ Array.replicate (fn.ntmps - args'.size) undef, defers := [] } w :=
    ⟨start_env (P := P) (h := h) (w := w) hargs fn.ntmps, hr, trivial⟩
  refine calls_of_wp hf hb ?_
  refine hd r _ w _ start (fun e a' w' r' hoe st sr => ?_)
  obtain ⟨v', e1, e2⟩ := tup_ok sr.env sr.hr hv
  have hdd := sr.ds.nil_inv
  rcases ho with rfl | rfl
  · cases hoe; exact ⟨hdd, v', e1, hK _ _ _ _ rfl st e2⟩
  · cases hoe; exact ⟨hdd, v', e1, hK _ _ _ _ rfl st e2⟩

/-- The same by one run of the engine. -/
theorem Holds.run (hP : noGoroutines P = true) (hm : P.follows .mixedOrders = true) {f : FuncId} {fn : Func} {c : Code} (hf : P.funcs[f]? = some fn) (hb : fn.body = some c) {F : FT} (hF : FOk P F) (keep : Bool) (n : Nat) {args : List Value} {h h' : AH} {env : List Value} {vs : List Value}
    (hd : acode P F (adraw P keep F) keep n c ⟨args ++ List.replicate (fn.ntmps - args.length) undef, h, []⟩ = some (out, ⟨env, h', []⟩)) (ho : out = .norm ∨ out = .ret) (hv : ares P env h' fn.results.toList = some vs) : Holds P f args h (.ret (tup vs)) h' :=
  Holds.body hP hf hb (Does.run hF hm keep n hd) ho hv

theorem Holds.calls (hP : noGoroutines P = true) {f : FuncId} {fn : Func} {c : Code} (hf : P.funcs[f]? = some fn) (hb : fn.body = some c) {args : List Value} {h h' : AH} {v : Value}
    (he : Holds P f args h (.ret v) h') {r : Rho} {w : World} {args' : Array Value} (hr : HR P r h w.heap) (ha : VL r args args'.toList) :
    Calls P f args' w fun e w' => ∃ v' r', e = .returned v' ∧ Stp P r h w r' h' w' ∧ VR r' v v' := by
  have h1 := he r w args' hr ha ⟨some 0, .move (.const undef), 0, "", #[], none⟩ ⟨#[undef], []⟩ (fun a' w' => ∃ v' r', a'.tmps[0]? = some v' ∧ Stp P r h w r' h' w' ∧ VR r' v v') (fun _ _ _ => False)
    (fun v1 v' w' r' e st hv => by cases e; exact ⟨v', r', rfl, st, hv⟩) (fun v1 v' w' r' e => by cases e)
  rw [run_callFunc hP hf hb] at h1
  refine Calls.mono h1 fun e w' he => ?_
  cases e with
  | returned u =>
    obtain ⟨v', r', e1, e2, e3⟩ := he
    have : u = v' := by simpa [Act.put] using e1
    subst this
    exact ⟨u, r', rfl, e2, e3⟩
  | panicked chain => exact he.elim
  | outgrown => obtain ⟨_, _, hh⟩ := he; exact hh.elim

end

/-- A heap of which nothing is the run's to write. -/
theorem Stp.below' {P : Program} {r r' : Rho} {h h' : AH} {w w' : World} (s : Stp P r h w r' h' w') (hn : ∀ (b : Nat) (B : Blk), h[b]? = some B → B.wr = false) : Below w.heap.size w w' :=
  ⟨s.fr.os, s.fr.tape, s.fr.output, s.fr.size, fun k hk => s.fr.block k hk fun ⟨b, B, x, h1, h2, _⟩ => by rw [hn b B h1] at h2; cases h2⟩

end Go.Eng
