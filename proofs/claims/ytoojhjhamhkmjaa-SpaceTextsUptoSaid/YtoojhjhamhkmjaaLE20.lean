/- The engine, part 20: an operation looked up ahead comes to what the engine says. -/
import Derived.Test.YtoojhjhamhkmjaaLE19
set_option linter.unusedVariables false
set_option linter.unusedSimpArgs false
namespace Go.Eng

theorem vK_inv {x : Option Value} {K : Value → Prop} (h : vK x K) : ∃ v, x = some v ∧ K v := by
  cases x with
  | none => exact h.elim
  | some v => exact ⟨v, rfl, h⟩
theorem vsK_inv {x : Option (List Value)} {K : List Value → Prop} (h : vsK x K) : ∃ v, x = some v ∧ K v := by
  cases x with
  | none => exact h.elim
  | some v => exact ⟨v, rfl, h⟩
def RR (res : RRes) (h : AH) (K : Value → AH → Prop) : Prop := match res with
  | (v, none) => K v h
  | (v, some B) => K v (h ++ [B])
theorem rK_inv {x : Option RRes} {h : AH} {K : Value → AH → Prop} (hk : rK x h K) : ∃ res, x = some res ∧ RR res h K := by
  cases x with
  | none => exact hk.elim
  | some res => obtain ⟨v, _ | B⟩ := res <;> exact ⟨_, rfl, hk⟩
theorem wK_inv {x : Option (Value × AH)} {K : Value → AH → Prop} (hk : wK x K) : ∃ v h', x = some (v, h') ∧ K v h' := by
  cases x with
  | none => exact hk.elim
  | some res => obtain ⟨v, h'⟩ := res; exact ⟨v, h', rfl, hk⟩
theorem hK_inv {x : Option AH} {K : Value → AH → Prop} (hk : hK x K) : ∃ h', x = some h' ∧ K undef h' := by
  cases x with
  | none => exact hk.elim
  | some h' => exact ⟨h', rfl, hk⟩
theorem pK_inv {x : Option (List (Nat × Nat × Value))} {z : List Value} {K : List Value → Prop} (h : pK x z K) : ∃ ps cs, x = some ps ∧ bldv z ps = some cs ∧ K cs := by
  cases x with
  | none => exact h.elim
  | some ps =>
    unfold pK at h
    simp only at h
    cases hb : bldv z ps with
    | none => rw [hb] at h; exact h.elim
    | some cs => rw [hb] at h; exact ⟨ps, cs, rfl, hb, h⟩
theorem bK_inv {v : Value} {K : Bool → Prop} (h : bK v K) : ∃ b, v = .bool b ∧ K b := by
  cases v <;> first | exact ⟨_, rfl, h⟩ | exact h.elim

/-- An operation, and what is to hold behind it. -/
inductive OpS (P : Program) (keep : Bool) (g : Operand → Option Value) (h : AH) (o : Oper) (K : Value → AH → Prop) (Kp : Value → AH → Prop) : Prop where
  | rd (res : RRes) (h1 : aread P g h h.length o = some res) (k : RR res h K)
  | wr (v : Value) (h' : AH) (h0 : aread P g h h.length o = none) (h1 : awrite P keep g h o = some (v, h')) (k : K v h')
  | call (c : Call) (fo : Operand) (f : FuncId) (first cap : Array Value) (args : List Value) (res : Res) (h' : AH) (h0 : aread P g h h.length o = none) (h9 : awrite P keep g h o = none)
      (h1 : o.op = .call c) (h2 : c.callee = .value fo) (h3 : g fo = some (.func (.func f) first cap)) (h4 : evs g c.args.toList = some args)
      (h5 : Holds P f (first.toList ++ args ++ cap.toList) h res h') (h6 : h.length ≤ h'.length) (k : RP K Kp res h')
  | pan (x : Operand) (t : TypeId) (v : Value) (h0 : aread P g h h.length o = none) (h9 : awrite P keep g h o = none) (h1 : o.op = .panic x) (h2 : g x = some (.iface t v)) (k : Kp (.iface t v) h)

section
variable {P : Program} {keep : Bool} {nm : List Nat} {e l : PE} {h : AH} {K : Value → AH → Prop} {Kp : Value → AH → Prop}

theorem res1_inv {f : U} {x : Operand} {k : RK} (hk : res1 nm f x = some k) : ∃ y, resX nm x = some y ∧ k = .u f y := by
  obtain ⟨y, h1, h2⟩ := Option.map_eq_some_iff.1 hk
  exact ⟨y, h1, h2.symm⟩
theorem res2_inv {f : B} {x y : Operand} {k : RK} (hk : res2 nm f x y = some k) : ∃ a b, resX nm x = some a ∧ resX nm y = some b ∧ k = .b f a b := by
  unfold res2 at hk
  split at hk
  · rename_i a b h1 h2; cases hk; exact ⟨a, b, h1, h2, rfl⟩
  · cases hk

theorem u_ok {g : Operand → Option Value} (hg : GG nm e l g) {o : Oper} {f : U} {x : Operand} {k : RK} (hk : res1 nm f x = some k) (hw : wpk P keep nm e l h K Kp k)
    (hr : ∀ v res, g x = some v → uval P h h.length f v = some res → aread P g h h.length o = some res) : OpS P keep g h o K Kp := by
  obtain ⟨y, h1, rfl⟩ := res1_inv hk
  obtain ⟨v, hv, hw⟩ := vK_inv hw
  obtain ⟨res, h2, h3⟩ := rK_inv hw
  exact .rd res (hr v res (hg h1 hv) h2) h3

theorem b_ok {g : Operand → Option Value} (hg : GG nm e l g) {o : Oper} {f : B} {x y : Operand} {k : RK} (hk : res2 nm f x y = some k) (hw : wpk P keep nm e l h K Kp k)
    (hr : ∀ u v res, g x = some u → g y = some v → bval P h f u v = some res → aread P g h h.length o = some res) : OpS P keep g h o K Kp := by
  obtain ⟨a, b, h1, h1', rfl⟩ := res2_inv hk
  obtain ⟨u, hu, hw⟩ := vK_inv hw
  obtain ⟨v, hv, hw⟩ := vK_inv hw
  obtain ⟨res, h2, h3⟩ := rK_inv hw
  exact .rd res (hr u v res (hg h1 hu) (hg h1' hv) h2) h3

/-- What is run upon values that name no block. -/
theorem rscal_of {g : Operand → Option Value} {o : Oper} (hs : notSel o.op = true) (ha : ∀ x ∈ o.op.operands.toList, okScal (g x) = true) {s : Sem Value} (he : execOp (fun x => (g x).getD undef) o = nv s)
    {v : Value} (hv : pureRun P s = some v) (hsv : scal 8 v = true) : rscal P g o = some (v, none) := by
  unfold rscal
  rw [if_pos (by rw [hs, List.all_eq_true.2 ha]; rfl), he]
  simp only [nv, pureRun_bind, hv, Option.bind_some, pureRun_pure, hsv, if_true]

theorem pureRun_eqGuard_int {op : BinOp} {t : TypeId} {x y : Operand} {k k' : IntKind} {a b : Int} : pureRun P (eqGuard op t x y (.int k a) (.int k' b)) = some () := by cases op <;> rfl
theorem pureRun_eqGuard_str {op : BinOp} {t : TypeId} {x y : Operand} {a b : ByteArray} : pureRun P (eqGuard op t x y (.string a) (.string b)) = some () := by cases op <;> rfl
theorem pureRun_eqGuard_bool {op : BinOp} {t : TypeId} {x y : Operand} {a b : Bool} : pureRun P (eqGuard op t x y (.bool a) (.bool b)) = some () := by cases op <;> rfl

theorem pureRun_ibin {op : BinOp} {t : TypeId} {k k' : IntKind} {a b : Int} {v : Value} (hk : k = k' ∨ op = .shl ∨ op = .shr) (hv : ibin op k a b = some v) : pureRun P (binOp op t (.int k a) (.int k' b)) = some v ∧ scal 8 v = true := by
  cases op with
  | shl =>
    simp only [ibin] at hv
    split at hv
    · cases hv
    · rename_i hb; cases hv; refine ⟨?_, rfl⟩; show pureRun P (Op.shift .shl k a k' b) = _; unfold Op.shift; rw [if_neg hb]; rfl
  | shr =>
    simp only [ibin] at hv
    split at hv
    · cases hv
    · rename_i hb; cases hv; refine ⟨?_, rfl⟩; show pureRun P (Op.shift .shr k a k' b) = _; unfold Op.shift; rw [if_neg hb]; rfl
  | quo =>
    rcases hk with rfl | h | h <;> try cases h
    simp only [ibin] at hv
    split at hv
    · cases hv
    · rename_i hb; cases hv; refine ⟨?_, rfl⟩; simp only [binOp, ne_eq, not_true_eq_false, if_false, Op.intDiv, hb]; rfl
  | rem =>
    rcases hk with rfl | h | h <;> try cases h
    simp only [ibin] at hv
    split at hv
    · cases hv
    · rename_i hb; cases hv; refine ⟨?_, rfl⟩; simp only [binOp, ne_eq, not_true_eq_false, if_false, Op.intDiv, hb]; rfl
  | _ =>
    rcases hk with rfl | h | h <;> try cases h
    all_goals (first | (cases hv; refine ⟨?_, rfl⟩; simp only [binOp, ne_eq, not_true_eq_false, if_false]; rfl) | cases hv)

theorem pureRun_sbin {op : BinOp} {t : TypeId} {a b : ByteArray} {v : Value} (hv : sbin op a b = some v) : pureRun P (binOp op t (.string a) (.string b)) = some v ∧ scal 8 v = true := by
  cases op with
  | add =>
    simp only [sbin] at hv
    split at hv
    · cases hv
    · rename_i hb; cases hv; refine ⟨?_, rfl⟩; show pureRun P (Op.stringOp .add a b) = _; unfold Op.stringOp; simp only [hb, if_false]; rfl
  | _ => first | (cases hv; exact ⟨rfl, rfl⟩) | cases hv

theorem bin_ok {o : Oper} {op : BinOp} {t : TypeId} {x y : Operand} {yt : TypeId} {u v z : Value} {g : Operand → Option Value} (ho : o.op = .binOp op t x y yt) (hx : g x = some u) (hy : g y = some v)
    (hu : scal 8 u = true) (hv : scal 8 v = true) (h0 : pureRun P (eqGuard op t x y u v) = some ()) (h1 : pureRun P (binOp op t u v) = some z) (hz : scal 8 z = true) (m : Nat) : aread P g h m o = some (z, none) := by
  obtain ⟨dst, op', type, pos, after, guard⟩ := o
  simp only at ho
  subst ho
  have := rscal_of (P := P) (g := g) (o := ⟨dst, .binOp op t x y yt, type, pos, after, guard⟩) rfl (fun q hq => by
    simp [Op.operands] at hq
    rcases hq with rfl | rfl
    · simp [okScal, hx, hu]
    · simp [okScal, hy, hv]) (s := do eqGuard op t x y u v; binOp op t u v) (by simp [execOp, hx, hy, nv]) (v := z) (by rw [pureRun_bind, h0]; exact h1) hz
  simp only [aread, this, orElse]

/-- Two values of one kind, and whether they are the same. -/
inductive CE : Nat → Value → Value → Bool → Prop where
  | int (k : IntKind) (x y : Int) : CE 0 (.int k x) (.int k y) (x == y)
  | bool (x y : Bool) : CE 1 (.bool x) (.bool y) (x == y)
  | str (x y : ByteArray) : CE 2 (.string x) (.string y) (x == y)

theorem ceq_cons {k : Nat} {ks : List Nat} {us vs : List Value} {r : Bool} (h : ceq (k :: ks) us vs = some r) : ∃ u v l m b r', us = u :: l ∧ vs = v :: m ∧ ceq ks l m = some r' ∧ r = (b && r') ∧ CE k u v b := by
  unfold ceq at h
  split at h
  · exact absurd ‹k :: ks = []› (by simp)
  · rename_i hh
    cases hh
    split at h
    · rename_i hk; subst hk
      obtain ⟨r', h1, h2⟩ := Option.map_eq_some_iff.1 h
      exact ⟨_, _, _, _, _, r', rfl, rfl, h1, h2.symm, .int _ _ _⟩
    · cases h
  · rename_i hh
    cases hh
    obtain ⟨r', h1, h2⟩ := Option.map_eq_some_iff.1 h
    exact ⟨_, _, _, _, _, r', rfl, rfl, h1, h2.symm, .bool _ _⟩
  · rename_i hh
    cases hh
    obtain ⟨r', h1, h2⟩ := Option.map_eq_some_iff.1 h
    exact ⟨_, _, _, _, _, r', rfl, rfl, h1, h2.symm, .str _ _⟩
  · cases h

theorem pureRun_isAgg {t : TypeId} {b : Bool} (h : isAggT P t = some b) : pureRun P (isAgg t) = some b := by
  unfold isAggT at h
  simp only [isAgg, pureRun_bind]
  split at h
  · rename_i hu; cases h; rw [pureRun_underlying hu]; rfl
  · rename_i hu; cases h; rw [pureRun_underlying hu]; rfl
  · rename_i d h1 h2 hu
    cases h
    rw [pureRun_underlying hu]
    simp only [Option.bind_some]
    cases d <;> first | rfl | exact absurd rfl (h1 _) | exact absurd rfl (h2 _ _)
  · cases h

theorem flatK_inv {f : Field} {i k : Nat} (h : flatK P f i = some k) : (f.name ≠ "_") ∧ f.offset = i ∧ ((∃ kd, P.underlying f.type = some (.int kd) ∧ k = 0) ∨ (P.underlying f.type = some .bool ∧ k = 1) ∨ (P.underlying f.type = some .string ∧ k = 2)) := by
  unfold flatK at h
  split at h
  · rename_i hc
    simp only [Bool.and_eq_true, bne_iff_ne, ne_eq, beq_iff_eq] at hc
    refine ⟨hc.1, hc.2, ?_⟩
    split at h
    · rename_i hu; cases h; exact .inl ⟨_, hu, rfl⟩
    · rename_i hu; cases h; exact .inr (.inl ⟨hu, rfl⟩)
    · rename_i hu; cases h; exact .inr (.inr ⟨hu, rfl⟩)
    · cases h
  · cases h

theorem flatK_part {f : Field} {i k : Nat} (hf : flatK P f i = some k) {xs : Array Value} {u : Value} (hx : xs.toList[i]? = some u) : pureRun P (part f.type xs f.offset) = some u := by
  obtain ⟨h1, h2, h3⟩ := flatK_inv hf
  have ha : isAggT P f.type = some false := by
    unfold isAggT
    rcases h3 with ⟨kd, h, _⟩ | ⟨h, _⟩ | ⟨h, _⟩ <;> rw [h]
  simp only [part, pureRun_bind, pureRun_isAgg ha, Option.bind_some, Bool.false_eq_true, if_false, h2]
  rw [show xs[i]? = some u by simpa using hx]
  rfl

theorem flatK_equal {d : Nat} {f : Field} {i k : Nat} (hf : flatK P f i = some k) {u v : Value} {b : Bool} (h : CE k u v b) : pureRun P (Op.equalIn (d + 1) f.type u v) = some b := by
  obtain ⟨h1, h2, h3⟩ := flatK_inv hf
  rw [Op.equalIn]
  simp only [pureRun_bind]
  rcases h3 with ⟨kd, hu, rfl⟩ | ⟨hu, rfl⟩ | ⟨hu, rfl⟩
  all_goals
    rw [pureRun_underlying hu]
    cases h
    first | rfl | (simp only [Option.bind_some, if_true]; rfl)

theorem equal_flat (d : Nat) {t : TypeId} {fields : Array Field} (hu : P.underlying t = some (.struct fields)) (hs : P.stoodInHeld t = false) {ks : List Nat} (hk : flatKs P fields.toList 0 = some ks) (xs ys : Array Value) {r : Bool}
    (hr : ceq ks xs.toList ys.toList = some r) : pureRun P (Op.equalIn (d + 2) t (.agg xs) (.agg ys)) = some r := by
  rw [Op.equalIn]
  simp only [pureRun_bind, pureRun_underlying hu, Option.bind_some, pureRun_program, hs, Bool.false_eq_true, if_false, ← Array.forIn_toList]
  suffices H : ∀ (fs : List Field) (i : Nat) (ks : List Nat) (r : Bool), flatKs P fs i = some ks → ceq ks (xs.toList.drop i) (ys.toList.drop i) = some r →
      pureRun P (forIn fs ((none, ()) : Option Bool × Unit) fun f __s =>
            if f.name ≠ "_" then do
              let __do_lift ← part f.type xs f.offset
              let __do_lift_1 ← part f.type ys f.offset
              let __do_lift ← Op.equalIn (d + 1) f.type __do_lift __do_lift_1
              if (!__do_lift) = true then pure (ForInStep.done (some false, ())) else pure (ForInStep.yield (none, ()))
            else pure (ForInStep.yield (none, ()))) = some (if r then (none, ()) else (some false, ())) by
    rw [H fields.toList 0 ks r hk (by simpa using hr)]
    cases r <;> rfl
  intro fs
  induction fs with
  | nil =>
    intro i ks r hk hr
    cases hk
    unfold ceq at hr
    split at hr
    · cases hr; rfl
    · rename_i h _ _; cases h
    · rename_i h _ _; cases h
    · rename_i h _ _; cases h
    · cases hr
  | cons f fs ih =>
    intro i ks r hk hr
    simp only [flatKs] at hk
    split at hk
    case h_2 => cases hk
    case h_1 k ks' hf hfs =>
      cases hk
      obtain ⟨u, v, l, m, b, r', e1, e2, e3, rfl, hce⟩ := ceq_cons hr
      have hl : xs.toList[i]? = some u := by have := congrArg (fun q : List Value => q[0]?) e1; simpa [List.getElem?_drop] using this
      have hm : ys.toList[i]? = some v := by have := congrArg (fun q : List Value => q[0]?) e2; simpa [List.getElem?_drop] using this
      have hd1 : xs.toList.drop (i + 1) = l := by have := congrArg (fun q : List Value => q.drop 1) e1; simpa [List.drop_drop] using this
      have hd2 : ys.toList.drop (i + 1) = m := by have := congrArg (fun q : List Value => q.drop 1) e2; simpa [List.drop_drop] using this
      have hih := ih (i + 1) ks' r' hfs (by rw [hd1, hd2]; exact e3)
      simp only [List.forIn_cons, pureRun_bind]
      rw [if_pos (flatK_inv hf).1]
      simp only [pureRun_bind, flatK_part hf hl, flatK_part hf hm, flatK_equal hf hce, Option.bind_some]
      cases b with
      | true => simp only [Bool.not_true, Bool.false_eq_true, if_false, pureRun_pure, Option.bind_some, Bool.true_and]; exact hih
      | false => rfl

theorem pureRun_equal_bool {t : TypeId} {a b : Bool} (hu : P.underlying t = some .bool) : pureRun P (Op.equal t (.bool a) (.bool b)) = some (a == b) := by
  show pureRun P (Op.equalIn (9999 + 1) t _ _) = _
  rw [Op.equalIn]
  simp only [pureRun_bind, pureRun_underlying hu]
  rfl

theorem rload_ld {t : TypeId} {v : Value} {res : RRes} (ha : isAggT P t = some false) {m : Nat} (hu : uval P h m .ld v = some res) : rload P h t v = some res := by
  unfold uval at hu
  split at hu <;> try cases hu
  all_goals rename_i hh <;> try cases hh
  unfold ldc at hu
  obtain ⟨v, h1, h2⟩ := Option.map_eq_some_iff.1 hu
  obtain ⟨cs, h3, h4⟩ := Option.bind_eq_some_iff.1 h1
  simp only [rload, h3, ha, h4, Option.map_some, h2]

theorem rload_ldn {t : TypeId} {n : Nat} {v : Value} {res : RRes} (ha : isAggT P t = some true) (hs : sizeT P t = some n) {m : Nat} (hu : uval P h m (.ldn n) v = some res) : rload P h t v = some res := by
  unfold uval at hu
  split at hu <;> try cases hu
  all_goals rename_i hh <;> try cases hh
  obtain ⟨cs, h3, h4⟩ := Option.bind_eq_some_iff.1 hu
  simp only [rload, h3, ha, hs]
  exact h4

end

end Go.Eng
