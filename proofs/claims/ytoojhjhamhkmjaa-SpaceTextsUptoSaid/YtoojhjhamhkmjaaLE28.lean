/- The engine, part 28: regions that draw their order do as their text says. -/
import Derived.Test.YtoojhjhamhkmjaaLE27
set_option linter.unusedVariables false
set_option linter.unusedSimpArgs false
namespace Go.Eng
section
variable {P : Program} {keep : Bool} {nm : List Nat} {N : Nat} {e l : PE} {h : AH} {K Kp : Value → AH → Prop}

theorem noWr_spec {o : Oper} (h : noWr o = true) : (∀ keep g hh, awrite P keep g hh o = none) ∧ (∀ c fo, o.op = .call c → c.callee ≠ .value fo) ∧ ∀ x, o.op ≠ .panic x := by
  obtain ⟨dst, op, type, pos, after, guard⟩ := o
  cases op
  case call c =>
    refine ⟨fun keep g hh => ?_, fun c' fo e1 e2 => ?_, fun x e => by cases e⟩
    · unfold noWr at h
      unfold awrite
      simp only at h ⊢
      split <;> simp_all
    · cases e1
      simp only [noWr, e2] at h
      cases h
  all_goals first
    | (cases h; done)
    | exact ⟨fun _ _ _ => rfl, (fun c fo e => by cases e), (fun x e => by cases e)⟩

theorem noRd_spec {o : Oper} (h : noRd o = true) (g : Operand → Option Value) (hh : AH) (m : Nat) : aread P g hh m o = none := by
  obtain ⟨dst, op, type, pos, after, guard⟩ := o
  cases op
  case call c =>
    unfold noRd at h
    simp only [aread, rcall] at h ⊢
    split <;> simp_all
  all_goals first
    | (cases h; done)
    | rfl

theorem uval_free {f : U} (hf : freeU f = true) (h h2 : AH) (m m2 : Nat) (v : Value) : uval P h m f v = uval P h2 m2 f v := by
  cases f <;> try (cases hf; done)
  all_goals
    cases v <;> first
      | rfl
      | (rename_i a; rcases a with _ | ⟨b, o, _ | s⟩ <;> rfl)
      | (rename_i fn _ _; cases fn <;> rfl)
      | (rename_i a _ _; rcases a with _ | ⟨b, o, _ | s⟩ <;> rfl)

theorem uval_some {f : U} (h1 : ∀ e, f ≠ .bx e) (h2 : ∀ e, f ≠ .s2b e) {m : Nat} {p v : Value} {B : Option Blk} (hu : uval P h m f p = some (v, B)) : B = none := by
  unfold uval at hu
  split at hu
  all_goals first
    | (cases hu; rfl; done)
    | (exact absurd rfl (h1 _))
    | (exact absurd rfl (h2 _))
    | (cases hu; done)
    | (obtain ⟨x, _, hh⟩ := Option.map_eq_some_iff.1 hu; cases hh; rfl; done)
    | (obtain ⟨cs, _, hh⟩ := Option.bind_eq_some_iff.1 hu; split at hh <;> first | (cases hh; rfl; done) | (cases hh; done))
    | skip
  all_goals
    split at hu
    all_goals first
      | (cases hu; rfl; done)
      | (cases hu; done)
      | (obtain ⟨cs, _, hh⟩ := Option.bind_eq_some_iff.1 hu; split at hh <;> first | (cases hh; done) | (obtain ⟨x, _, h3⟩ := Option.map_eq_some_iff.1 hh; cases h3; rfl; done))
      | (split at hu <;> first | (cases hu; rfl; done) | (cases hu; done))


theorem bval_some {f : B} {p q v : Value} {Bl : Option Blk} (hu : bval P h f p q = some (v, Bl)) : Bl = none := by
  cases f
  case lk kt z ok =>
    simp only [bval] at hu
    split at hu
    · split at hu
      · obtain ⟨x, _, hh⟩ := Option.map_eq_some_iff.1 hu; cases hh; rfl
      · cases hu; rfl
      · cases hu
    · cases hu
  case er neg t =>
    have hu' : (refV t p q).map (fun r => (Value.bool (r != neg), (none : Option Blk))) = some (v, Bl) := hu
    obtain ⟨x, _, hh⟩ := Option.map_eq_some_iff.1 hu'; cases hh; rfl
  case es neg ks =>
    obtain ⟨xs, ys, rfl, rfl, hb⟩ := bval_es hu
    obtain ⟨x, _, hh⟩ := Option.map_eq_some_iff.1 hb; cases hh; rfl
  all_goals
    unfold bval at hu
    split at hu
    all_goals first
      | (cases hu; done)
      | (cases hu; rfl; done)
      | (obtain ⟨x, _, hh⟩ := Option.map_eq_some_iff.1 hu; cases hh; rfl; done)
      | (split at hu <;> first | (cases hu; rfl; done) | (cases hu; done) | (obtain ⟨x, _, hh⟩ := Option.map_eq_some_iff.1 hu; cases hh; rfl; done))
      | (rename_i hh; cases hh; done)

theorem bval_free {f : B} (hf : freeB f = true) (h h2 : AH) (p q : Value) : bval P h f p q = bval P h2 f p q := by
  cases f <;> try (cases hf; done)
  all_goals
    cases p <;> first
      | rfl
      | (cases q <;> rfl)
      | (rename_i a; rcases a with _ | ⟨b, o, _ | s⟩ <;> first | rfl | (cases q <;> rfl))
      | (rename_i a _ _; rcases a with _ | ⟨b, o, _ | s⟩ <;> first | rfl | (cases q <;> rfl))

/-- An operation that lays no block and writes nothing leaves the heap as it is. -/
theorem nonpot_one {k : RK} (hp : potK k = false) (hb : badK k = false) (hw : wpk P keep nm e l h K Kp k) : ∃ v, K v h ∧ ∀ K' Kp' : Value → AH → Prop, K' v h → wpk P keep nm e l h K' Kp' k := by
  have vk : ∀ {x : Option Value} {v : Value} {K : Value → Prop}, x = some v → K v → vK x K := fun h k => by subst h; exact k
  have vsk : ∀ {x : Option (List Value)} {v : List Value} {K : List Value → Prop}, x = some v → K v → vsK x K := fun h k => by subst h; exact k
  have rk : ∀ {x : Option RRes} {v : Value} {K : Value → AH → Prop}, x = some (v, none) → K v h → rK x h K := fun h k => by subst h; exact k
  cases k <;> try (cases hp; done)
  case u f x =>
    obtain ⟨p, h1, hw⟩ := vK_inv hw
    obtain ⟨⟨v, B⟩, h2, h3⟩ := rK_inv hw
    have hB : B = none := uval_some (fun e he => by subst he; cases hp) (fun e he => by subst he; cases hp) h2
    subst hB
    exact ⟨v, h3, fun K' _ q => vk h1 (rk h2 q)⟩
  case b f x y =>
    obtain ⟨p, h1, hw⟩ := vK_inv hw
    obtain ⟨p2, h1', hw⟩ := vK_inv hw
    obtain ⟨⟨v, B⟩, h2, h3⟩ := rK_inv hw
    have hB := bval_some h2
    subst hB
    exact ⟨v, h3, fun K' _ q => vk h1 (vk h1' (rk h2 q))⟩
  case pk c a b =>
    obtain ⟨u, h1, hw⟩ := vK_inv hw
    obtain ⟨t, rfl, hw⟩ := bK_inv hw
    rcases br_inv hw with ⟨rfl, hw⟩ | ⟨rfl, hw⟩
    · obtain ⟨v, h2, hw⟩ := vK_inv hw
      exact ⟨v, hw, fun K' _ q => by simp only [wpk, h1, vK, bK, br, h2]; exact q⟩
    · obtain ⟨v, h2, hw⟩ := vK_inv hw
      exact ⟨v, hw, fun K' _ q => by simp only [wpk, h1, vK, bK, br, h2]; exact q⟩
  case bld z ps =>
    obtain ⟨vs, cs, h1, h2, hw⟩ := pK_inv hw
    exact ⟨_, hw, fun K' _ q => by simp only [wpk, pK, h1, h2]; exact q⟩
  case mkf fn first cap =>
    obtain ⟨fs, h1, hw⟩ := vsK_inv hw
    obtain ⟨cs, h2, hw⟩ := vsK_inv hw
    exact ⟨_, hw, fun K' _ q => vsk h1 (vsk h2 q)⟩
  case sls x lo hi =>
    obtain ⟨p, h1, hw⟩ := vK_inv hw
    obtain ⟨⟨v, B⟩, h2, h3⟩ := rK_inv hw
    have hB : B = none := by
      obtain ⟨a1, _, h4⟩ := Option.bind_eq_some_iff.1 h2
      obtain ⟨a2, _, h5⟩ := Option.bind_eq_some_iff.1 h4
      unfold slsv at h5
      split at h5
      · obtain ⟨a3, _, h6⟩ := Option.bind_eq_some_iff.1 h5
        obtain ⟨a4, _, h7⟩ := Option.map_eq_some_iff.1 h6
        cases h7; rfl
      · cases h5
    subst hB
    exact ⟨v, h3, fun K' _ q => vk h1 (rk h2 q)⟩
  case sll t sz x lo hi =>
    obtain ⟨p, h1, hw⟩ := vK_inv hw
    obtain ⟨⟨v, B⟩, h2, h3⟩ := rK_inv hw
    have hB : B = none := by
      obtain ⟨a1, _, h4⟩ := Option.bind_eq_some_iff.1 h2
      obtain ⟨a2, _, h5⟩ := Option.bind_eq_some_iff.1 h4
      unfold sllv at h5
      split at h5
      · split at h5
        · obtain ⟨a3, _, h6⟩ := Option.bind_eq_some_iff.1 h5
          obtain ⟨a4, _, h7⟩ := Option.map_eq_some_iff.1 h6
          cases h7; rfl
        · cases h5
      · obtain ⟨a3, _, h6⟩ := Option.bind_eq_some_iff.1 h5
        obtain ⟨a4, _, h7⟩ := Option.map_eq_some_iff.1 h6
        cases h7; rfl
      · cases h5
    subst hB
    exact ⟨v, h3, fun K' _ q => vk h1 (rk h2 q)⟩

theorem nonpot_read {k : RK} {o : Oper} {g : Operand → Option Value} (hg : GG nm e l g) (hk : resK P nm o = some k) (ho : opOk P o k = true) (hp : potK k = false) (hw : wpk P keep nm e l h K Kp k) :
    ∃ v, K v h ∧ aread P g h h.length o = some (v, none) ∧ ∀ K' Kp' : Value → AH → Prop, K' v h → wpk P keep nm e l h K' Kp' k := by
  unfold opOk at ho
  simp only [Bool.and_eq_true, Bool.or_eq_true, Bool.not_eq_true'] at ho
  obtain ⟨⟨⟨⟨⟨hb, h1⟩, h2⟩, h3⟩, h4⟩, h5⟩ := ho
  have hwr : wrK k = false := by cases k <;> first | rfl | cases hp
  obtain ⟨k1, k2, k3⟩ := noWr_spec (P := P) (by rcases h1 with h1 | h1; rw [hwr] at h1; cases h1; exact h1)
  obtain ⟨v, q1, q2⟩ := nonpot_one hp hb hw
  refine ⟨v, q1, ?_, q2⟩
  have hw' := q2 (fun v1 h1 => v1 = v ∧ h1 = h) (fun _ _ => False) ⟨rfl, rfl⟩
  have hnr : k ≠ .raw o := fun e => by subst e; cases hb
  cases wpk_okg hg hk hnr hw' with
  | rd res e1 e2 =>
    obtain ⟨u, _ | B⟩ := res
    · obtain ⟨rfl, _⟩ := e2; exact e1
    · obtain ⟨_, e3⟩ := e2
      have := congrArg List.length e3
      simp at this
  | wr v h' h0 e1 e2 => rw [k1] at e1; cases e1
  | call c fo f first cap args res h' h0 h9 e1 e2 => exact absurd e2 (k2 c fo e1)
  | pan x t v h0 h9 e1 => exact absurd e1 (k3 x)

theorem free_any {k : RK} (hf : freeK k = true) (hw : wpk P keep nm e l h K Kp k) (h2 : AH) {K2 : Value → AH → Prop} (hK : ∀ v, K v h → K2 v h2) : wpk P keep nm e l h2 K2 Kp k := by
  have vk : ∀ {x : Option Value} {v : Value} {K : Value → Prop}, x = some v → K v → vK x K := fun h k => by subst h; exact k
  have hp : potK k = false := by
    cases k <;> first | rfl | (cases hf; done) | skip
    case u f x => cases f <;> first | rfl | cases hf
  have hb : badK k = false := by cases k <;> first | rfl | cases hf
  have hdone := nonpot_one hp hb hw
  cases k <;> try (cases hf; done)
  case u f x =>
    obtain ⟨p, e1, hw⟩ := vK_inv hw
    obtain ⟨⟨v, B⟩, e2, e3⟩ := rK_inv hw
    have hB : B = none := uval_some (fun e he => by subst he; cases hf) (fun e he => by subst he; cases hf) e2
    subst hB
    have hfree : freeU f = true := hf
    refine vk e1 ?_
    rw [uval_free hfree h2 h h2.length h.length, e2]
    exact hK v e3
  case b f x y =>
    obtain ⟨p, e1, hw⟩ := vK_inv hw
    obtain ⟨p2, e1', hw⟩ := vK_inv hw
    obtain ⟨⟨v, B⟩, e2, e3⟩ := rK_inv hw
    have hB := bval_some e2
    subst hB
    refine vk e1 (vk e1' ?_)
    rw [bval_free hf h2 h, e2]
    exact hK v e3
  case pk c a b =>
    obtain ⟨u, e1, hw⟩ := vK_inv hw
    obtain ⟨t, rfl, hw⟩ := bK_inv hw
    rcases br_inv hw with ⟨rfl, hw⟩ | ⟨rfl, hw⟩
    · obtain ⟨v, e2, hw⟩ := vK_inv hw
      simp only [wpk, e1, vK, bK, br, e2]; exact hK v hw
    · obtain ⟨v, e2, hw⟩ := vK_inv hw
      simp only [wpk, e1, vK, bK, br, e2]; exact hK v hw
  case bld z ps =>
    obtain ⟨vs, cs, e1, e2, hw⟩ := pK_inv hw
    simp only [wpk, pK, e1, e2]; exact hK _ hw
  case mkf fn first cap =>
    obtain ⟨fs, e1, hw⟩ := vsK_inv hw
    obtain ⟨cs, e2, hw⟩ := vsK_inv hw
    simp only [wpk, vsK, e1, e2]; exact hK _ hw


theorem ld_same {o : Oper} {f : U} {y : RX} {env : List Value} (hg : GG nm e l (ev env)) (hk : resK P nm o = some (.u f y)) (ho : opOk P o (.u f y) = true) (hf : isLd f = true) {p v : Value} (hp : rx e l y = some p) : Same1 P env o f p v := by
  unfold opOk at ho
  simp only [Bool.and_eq_true] at ho
  have h4 := ho.1.2
  obtain ⟨dst, op, type, pos, after, guard⟩ := o
  cases f <;> try (cases hf; done)
  case ld =>
    cases op <;> try (cases h4; done)
    rename_i t x
    simp only [ldOk, beq_iff_eq] at h4
    simp only [resK, h4] at hk
    obtain ⟨y', h1, h2⟩ := res1_inv hk
    cases h2
    intro h2 m m' hu
    simp only [aread, hg h1 hp, Option.bind_some]
    exact rload_ld h4 hu
  case ldn n =>
    cases op <;> try (cases h4; done)
    rename_i t x
    simp only [ldOk, Bool.and_eq_true, beq_iff_eq] at h4
    simp only [resK, h4.1, h4.2, Option.bind_some] at hk
    obtain ⟨y', h1, h2⟩ := res1_inv hk
    cases h2
    intro h2 m m' hu
    simp only [aread, hg h1 hp, Option.bind_some]
    exact rload_ldn h4.1 h4.2 hu

theorem al_grow {k : RK} (hp : potK k = true) (hwr : wrK k = false) (hb : badK k = false) (hw : wpk P keep nm e l h K Kp k) : wpk P keep nm e l h (fun v h' => K v h' ∧ h.length < h'.length) Kp k := by
  cases k <;> try (cases hp; done)
  all_goals try (cases hwr; done)
  all_goals try (cases hb; done)
  case u f x =>
    obtain ⟨p, h1, hw⟩ := vK_inv hw
    obtain ⟨⟨v, B⟩, h2, h3⟩ := rK_inv hw
    simp only [wpk, vK, h1, rK, h2]
    cases f <;> try (cases hp; done)
    case bx t => cases h2; exact ⟨h3, by simp⟩
    case s2b t => cases p <;> cases h2; exact ⟨h3, by simp⟩
  case bsl t n z ps =>
    obtain ⟨vs, cs, h1, h2, hw⟩ := pK_inv hw
    simp only [wpk, pK, h1, h2]
    exact ⟨hw, by simp⟩
  case al t z => exact ⟨hw, by simp⟩
  case mm => exact ⟨hw, by simp⟩
  case msl t z bytes x y =>
    obtain ⟨u, h1, hw⟩ := vK_inv hw
    obtain ⟨v, h1', hw⟩ := vK_inv hw
    obtain ⟨⟨v2, B⟩, h2, h3⟩ := rK_inv hw
    simp only [wpk, vK, h1, h1', rK, h2]
    cases u <;> cases v <;> try (cases h2; done)
    simp only [mslv] at h2
    split at h2
    · cases h2; exact ⟨h3, by simp⟩
    · cases h2

theorem pan_call {k : RK} (hb : badK k = false) (hw : wpk P keep nm e l h (fun _ _ => False) Kp k) : ∃ f as, k = .call f as := by
  have rk : ∀ {x : Option RRes}, rK x h (fun _ _ => False) → False := fun hh => by
    obtain ⟨⟨v, _ | B⟩, _, h3⟩ := rK_inv hh <;> exact h3
  cases k <;> try (cases hb; done)
  case call f as => exact ⟨f, as, rfl⟩
  all_goals exfalso
  case u f x => obtain ⟨p, _, hw⟩ := vK_inv hw; exact rk hw
  case b f x y => obtain ⟨p, _, hw⟩ := vK_inv hw; obtain ⟨p, _, hw⟩ := vK_inv hw; exact rk hw
  case pk c a b =>
    obtain ⟨u, _, hw⟩ := vK_inv hw
    obtain ⟨t, rfl, hw⟩ := bK_inv hw
    rcases br_inv hw with ⟨_, hw⟩ | ⟨_, hw⟩ <;> (obtain ⟨v, _, hw⟩ := vK_inv hw; exact hw)
  case bld z ps => obtain ⟨vs, cs, _, _, hw⟩ := pK_inv hw; exact hw
  case bsl t n z ps => obtain ⟨vs, cs, _, _, hw⟩ := pK_inv hw; exact hw
  case mkf fn a b => obtain ⟨p, _, hw⟩ := vsK_inv hw; obtain ⟨p, _, hw⟩ := vsK_inv hw; exact hw
  case al => exact hw
  case mm => exact hw
  case msl t z bytes x y => obtain ⟨p, _, hw⟩ := vK_inv hw; obtain ⟨p, _, hw⟩ := vK_inv hw; exact rk hw
  case sls x lo hi => obtain ⟨p, _, hw⟩ := vK_inv hw; exact rk hw
  case sll t sz x lo hi => obtain ⟨p, _, hw⟩ := vK_inv hw; exact rk hw
  case st n a x => obtain ⟨p, _, hw⟩ := vK_inv hw; obtain ⟨p, _, hw⟩ := vK_inv hw; obtain ⟨p, _, hw⟩ := hK_inv hw; exact hw
  case app => obtain ⟨p, _, hw⟩ := vK_inv hw; obtain ⟨p, _, hw⟩ := vK_inv hw; obtain ⟨p, _, _, hw⟩ := wK_inv hw; exact hw
  case clr => obtain ⟨p, _, hw⟩ := vK_inv hw; obtain ⟨p, _, _, hw⟩ := wK_inv hw; exact hw
  case cpy => obtain ⟨p, _, hw⟩ := vK_inv hw; obtain ⟨p, _, hw⟩ := vK_inv hw; obtain ⟨p, _, _, hw⟩ := wK_inv hw; exact hw
  case mup => obtain ⟨p, _, hw⟩ := vK_inv hw; obtain ⟨p, _, hw⟩ := vK_inv hw; obtain ⟨p, _, hw⟩ := vK_inv hw; obtain ⟨p, _, hw⟩ := hK_inv hw; exact hw

def Called (o : Oper) (f : FuncId) : Prop := callOf o = some (some f) ∨ callOf o = some none

theorem called_of {env : List Value} {o : Oper} {c : Call} {fo : Operand} {f : FuncId} {first cap : Array Value} (h1 : o.op = .call c) (h2 : c.callee = .value fo) (h3 : ev env fo = some (.func (.func f) first cap)) : Called o f := by
  unfold Called callOf
  rw [h1]
  simp only
  rw [h2]
  cases fo with
  | func g => simp only [ev] at h3; cases h3; exact .inl rfl
  | _ => exact .inr rfl

theorem pot_write {k : RK} {o : Oper} {env : List Value} (hg : GG nm e l (ev env)) (hk : resK P nm o = some k) (ho : opOk P o k = true) (hp : potK k = true) (hw : wpk P keep nm e l h K Kp k) :
    (∀ u, aread P (ev env) h h.length o ≠ some (u, none)) ∧
    ((∃ v h', K v h' ∧ h.length ≤ h'.length ∧ (alK k = true → allocOp o = true ∧ ∃ u B, aread P (ev env) h h.length o = some (u, some B)) ∧
      ((∀ F, aopv P F keep env h o = some (.ret v, h')) ∨ ∃ f args, Called o f ∧ Holds P f args h (.ret v) h' ∧ ∀ F : FT, F f args h = some (.ret v, h') → aopv P F keep env h o = some (.ret v, h'))) ∨
    (∃ v h', Kp v h' ∧ h.length ≤ h'.length ∧ (∃ f as, k = .call f as) ∧ ∃ f args, Called o f ∧ Holds P f args h (.pan v) h' ∧ ∀ F : FT, F f args h = some (.pan v, h') → aopv P F keep env h o = some (.pan v, h'))) := by
  have ho' := ho
  unfold opOk at ho
  simp only [Bool.and_eq_true, Bool.or_eq_true, Bool.not_eq_true'] at ho
  obtain ⟨⟨⟨⟨⟨hb, h1⟩, h2⟩, h3⟩, h4⟩, h5⟩ := ho
  have hnr : k ≠ .raw o := fun e => by subst e; cases hb
  have hnopan : ∀ x, o.op ≠ .panic x := by
    intro x hx
    rcases h1 with h1 | h1
    · rcases h2 with h2 | h2
      · rw [h1] at h2; cases h2
      · unfold noRd at h2; rw [hx] at h2; cases h2
    · exact (noWr_spec (P := P) h1).2.2 x hx
  have hnotread : ∀ u, aread P (ev env) h h.length o ≠ some (u, none) := by
    intro u hu
    cases hwr : wrK k with
    | true =>
      rcases h2 with h2 | h2
      · rw [hwr] at h2; cases h2
      · rw [noRd_spec h2] at hu; cases hu
    | false =>
      have hgrow := al_grow hp hwr hb hw
      cases wpk_okg hg hk hnr hgrow with
      | rd res e1 e2 =>
        rw [hu] at e1; cases e1
        have := e2.2
        omega
      | wr v h' h0 => rw [hu] at h0; cases h0
      | call c fo f first cap args res h' h0 => rw [hu] at h0; cases h0
      | pan x t v h0 => rw [hu] at h0; cases h0
  refine ⟨hnotread, ?_⟩
  have hal : alK k = true → allocOp o = true := fun ha => by rw [← beq_iff_eq.1 h3]; exact ha
  rcases wpk_one k hw with ⟨v, h', k1, k2, k3⟩ | ⟨v, h', k1, k2, k3⟩
  · refine .inl ⟨v, h', k1, k2, ?_⟩
    cases wpk_okg hg hk hnr (k3 (fun v1 h1 => v1 = v ∧ h1 = h') (fun _ _ => False) ⟨rfl, rfl⟩) with
    | rd res e1 e2 =>
      obtain ⟨u, _ | B⟩ := res
      · exact absurd e1 (hnotread u)
      · obtain ⟨rfl, rfl⟩ := e2
        exact ⟨fun ha => ⟨hal ha, u, B, e1⟩, .inl fun F => by simp only [aopv, e1]⟩
    | wr v1 h1' h0 e1 e2 =>
      obtain ⟨rfl, rfl⟩ := e2
      refine ⟨fun ha => ?_, .inl fun F => by simp only [aopv, h0, e1]⟩
      exfalso
      have hwr : wrK k = false := by cases k <;> first | rfl | cases ha
      rcases h1 with h1 | h1
      · rw [hwr] at h1; cases h1
      · rw [(noWr_spec (P := P) h1).1] at e1; cases e1
    | call c fo f first cap args res h1' h0 h9 e1 e2 e3 e4 e5 e6 e7 =>
      cases e7 with
      | pan q => exact q.elim
      | ret q =>
        obtain ⟨rfl, rfl⟩ := q
        refine ⟨fun ha => ?_, .inr ⟨f, _, called_of e1 e2 e3, e5, fun F hF => ?_⟩⟩
        · exfalso
          have := hal ha
          unfold allocOp at this
          rw [e1] at this; cases this
        · simp only [aopv, h0, h9, e1, acall1, e2, e3, e4]
          exact hF
    | pan x t v1 h0 h9 e1 => exact absurd e1 (hnopan x)
  · refine .inr ⟨v, h', k1, k2, pan_call hb (k3 (fun _ _ => False) (fun v1 h1 => v1 = v ∧ h1 = h') ⟨rfl, rfl⟩), ?_⟩
    cases wpk_okg hg hk hnr (k3 (fun _ _ => False) (fun v1 h1 => v1 = v ∧ h1 = h') ⟨rfl, rfl⟩) with
    | rd res e1 e2 => obtain ⟨u, _ | B⟩ := res <;> exact e2.elim
    | wr v1 h1' h0 e1 e2 => exact e2.elim
    | call c fo f first cap args res h1' h0 h9 e1 e2 e3 e4 e5 e6 e7 =>
      cases e7 with
      | ret q => exact q.elim
      | pan q =>
        obtain ⟨rfl, rfl⟩ := q
        refine ⟨f, _, called_of e1 e2 e3, e5, fun F hF => ?_⟩
        simp only [aopv, h0, h9, e1, acall1, e2, e3, e4]
        exact hF
    | pan x t v1 h0 h9 e1 => exact absurd e1 (hnopan x)

end
end Go.Eng
