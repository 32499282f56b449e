/- The engine, part 22: what code comes to, types looked up ahead. -/
import Derived.Test.YtoojhjhamhkmjaaLE21
set_option linter.unusedVariables false
set_option linter.unusedSimpArgs false
namespace Go.Eng

/-! ### Code looked up ahead -/

def resDst (nm : List Nat) (N : Nat) : Option Tmp → Option D
  | none => some .z
  | some d => if d < N then some (if nm.contains d then .n d else .t d) else none

def resG (nm : List Nat) (ops : Array Oper) : Option (Nat × Bool) → Option (Option (RX × Bool))
  | none => some none
  | some (j, want) => match (ops[j]?).bind (·.dst) with
    | some d => some (some (if nm.contains d then .n d else .t d, want))
    | none => none

def resOp (P : Program) (nm : List Nat) (N : Nat) (ops : Array Oper) (o : Oper) : Option RO :=
  match resDst nm N o.dst, resG nm ops o.guard, resK P nm o with
  | some d, some g, some k => some ⟨d, g, k⟩
  | _, _, _ => none

def resOps (P : Program) (nm : List Nat) (N : Nat) (ops : Array Oper) : List Oper → Option (List RO)
  | [] => some []
  | o :: l => match resOp P nm N ops o, resOps P nm N ops l with
    | some x, some xs => some (x :: xs)
    | _, _ => none

/-- Where a result goes. -/
def pe (d : D) (e : PE) (v : Value) : PE := match d with
  | .n i => upd e i v
  | _ => e
def pl (d : D) (l : PE) (v : Value) : PE := match d with
  | .t i => (i, v) :: l
  | _ => l

structure PS where
  e : PE
  l : PE
  h : AH
  ds : List Dfr

def gK (g : Option (RX × Bool)) (e l : PE) (A B : Prop) : Prop := match g with
  | none => A
  | some (x, want) => vK (rx e l x) fun v => bK v fun b => br (b == want) A B

def dK (f : Value) (args : List Value) (K : Dfr → Prop) : Prop := match f with
  | .func fn first cap => K ⟨fn, cap.toList, first.toList ++ args⟩
  | _ => False

def wpo (P : Program) (keep : Bool) (nm : List Nat) (e l : PE) (h : AH) (ds : List Dfr) (Kd : Dfr → Prop) (K : Value → AH → Prop) (Kp : Value → AH → Prop) : RK → Prop
  | .dfr f args => vK (rx e l f) fun fv => vsK (rxs e l args) fun as => dK fv as Kd
  | k => wpk P keep nm e l h K Kp k

def wpr (P : Program) (keep : Bool) (nm : List Nat) (Φ : Out → PS → Prop) : List RO → PE → PE → AH → List Dfr → Prop
  | [], e, l, h, ds => Φ .norm ⟨e, l.take 1, h, ds⟩
  | o :: os, e, l, h, ds =>
    gK o.g e l
      (wpo P keep nm e l h ds (fun d => wpr P keep nm Φ os (pe o.d e undef) (pl o.d l undef) h (d :: ds)) (fun v h' => wpr P keep nm Φ os (pe o.d e v) (pl o.d l v) h' ds) (fun v h' => Φ (.pan v) ⟨[], [], h', ds⟩) o.k)
      (wpr P keep nm Φ os (pe o.d e undef) (pl o.d l undef) h ds)

/-- A load that was done: its place, its kind, from where, what. -/
abbrev Rd := Nat × U × Value × Value

def isLd : U → Bool
  | .ld => true
  | .ldn _ => true
  | _ => false

def rdOf (e l : PE) (i : Nat) (k : RK) (v : Value) (rs : List Rd) : List Rd := match k with
  | .u f x => if isLd f then match rx e l x with
      | some p => (i, f, p, v) :: rs
      | none => rs
    else rs
  | _ => rs

/-- Loads that were done stand in a heap. -/
def chkK (P : Program) (h : AH) (rs : List Rd) (is : List Nat) (K : Prop) : Prop := match rs with
  | [] => K
  | (i, f, p, v) :: rs => if is.contains i then uval P h h.length f p = some (v, none) ∧ chkK P h rs is K else chkK P h rs is K

/-- A load stands in the heaps ahead of writers. -/
def oldK (P : Program) (hs : List (Nat × AH)) (js : List Nat) (r : List Rd) (K : Prop) : Prop := match hs with
  | [] => K
  | (j, h) :: hs => if js.contains j then chkK P h r (r.map (·.1)) (oldK P hs js r K) else oldK P hs js r K

def wpd (P : Program) (keep : Bool) (nm : List Nat) (Φ : Out → PS → Prop) : List DO → List (Nat × AH) → List Rd → PE → PE → AH → List Dfr → Prop
  | [], _, _, e, l, h, ds => Φ .norm ⟨e, l.take 1, h, ds⟩
  | o :: os, hs, rs, e, l, h, ds =>
    gK o.o.g e l
      (wpk P keep nm e l h (fun v h' => chkK P h' rs o.chk (oldK P hs o.old (rdOf e l o.i o.o.k v []) (wpd P keep nm Φ os (if o.w then (o.i, h) :: hs else hs) (rdOf e l o.i o.o.k v rs) (pe o.o.d e v) (pl o.o.d l v) h' ds)))
        (fun v h' => Φ (.pan v) ⟨[], [], h', ds⟩) o.o.k)
      (wpd P keep nm Φ os hs rs (pe o.o.d e undef) (pl o.o.d l undef) h ds)

def npK (Φ : Out → PS → Prop) : Out → PS → Prop
  | .pan _, _ => False
  | out, s => Φ out s

/-- A state of which no more is known. -/
structure Lss (s0 s : PS) : Prop where
  e : ∀ t v, look s0.e t = some v → look s.e t = some v
  l : ∀ t v, look s0.l t = some v → look s.l t = some v
  h : s0.h = s.h
  ds : s0.ds = s.ds

/-- The rounds of a loop, n at most. -/
def loopN (body : (Out → PS → Prop) → PS → Prop) (Φ : Out → PS → Prop) : Nat → PS → Prop
  | 0, _ => False
  | n + 1, s => ∃ s0, Lss s0 s ∧ body (fun out s' => match out with
    | .norm => loopN body Φ n s'
    | out => Φ out s') s0

def seqK (k : PS → Prop) (Φ : Out → PS → Prop) : Out → PS → Prop
  | .norm, s => k s
  | out, s => Φ out s

def blkK (id : Nat) (Φ : Out → PS → Prop) : Out → PS → Prop
  | .exit i, s => if i = id then Φ .norm s else Φ (.exit i) s
  | out, s => Φ out s

def wpc (P : Program) (keep : Bool) (nm : List Nat) : RC → (Out → PS → Prop) → PS → Prop
  | .skip, Φ, s => Φ .norm s
  | .ret, Φ, s => Φ .ret s
  | .exit id, Φ, s => Φ (.exit id) s
  | .rg l, Φ, s => wpr P keep nm Φ l s.e s.l s.h s.ds
  | .dr need np l, Φ, s => vsK (rxs s.e s.l need) fun _ => wpd P keep nm (if np then npK Φ else Φ) l [] [] s.e s.l s.h s.ds
  | .sq a b, Φ, s => wpc P keep nm a (seqK (wpc P keep nm b Φ) Φ) s
  | .ite x a b, Φ, s => vK (rx s.e s.l x) fun v => bK v fun t => br t (wpc P keep nm a Φ s) (wpc P keep nm b Φ s)
  | .blk id b, Φ, s => wpc P keep nm b (blkK id Φ) s
  | .loop b, Φ, s => ∃ n, loopN (wpc P keep nm b) Φ n s

/-! ### States -/

structure SP (P : Program) (nm : List Nat) (N : Nat) (r : Rho) (s : PS) (a : Act) (w : World) : Prop where
  e : ∀ t v, look s.e t = some v → ∃ v', a.tmps[t]? = some v' ∧ VR r v v'
  l : ∀ t v, look s.l t = some v → ∃ v', a.tmps[t]? = some v' ∧ VR r v v'
  en : ∀ t v, look s.e t = some v → nm.contains t = true
  ln : ∀ t v, look s.l t = some v → nm.contains t = false
  sz : N ≤ a.tmps.size
  hr : HR P r s.h w.heap
  ds : DR r s.ds a.defers

section
variable {P : Program} {keep : Bool} {nm : List Nat} {N : Nat} {r r' : Rho} {s : PS} {a : Act} {w w' : World}

theorem SP.rx (hs : SP P nm N r s a w) {x : Operand} {y : RX} (hx : resX nm x = some y) {v : Value} (hv : rx s.e s.l y = some v) : VR r v (a.eval x) := by
  cases x with
  | tmp t =>
    simp only [resX] at hx
    split at hx
    · cases hx; obtain ⟨v', h1, h2⟩ := hs.e t v hv; simpa [Act.eval, h1] using h2
    · cases hx; obtain ⟨v', h1, h2⟩ := hs.l t v hv; simpa [Act.eval, h1] using h2
  | const u =>
    simp only [resX] at hx
    split at hx
    · cases hx; cases hv; exact scal_refl 8 _ ‹_›
    · cases hx
  | global g => cases hx
  | func f => cases hx; cases hv; exact VR.func_l (.nil r) (.nil r)

theorem SP.gr (hs : SP P nm N r s a w) : GR r (gof nm s.e s.l) a := fun x v h => by
  obtain ⟨y, h1, h2⟩ := Option.bind_eq_some_iff.1 h
  exact hs.rx h1 h2

theorem put_get (a : Act) (d t : Nat) (v : Value) (hd : d < a.tmps.size) : (a.put (some d) v).tmps[t]? = if d = t then some v else a.tmps[t]? := by
  simp only [Act.put]
  rw [Array.getElem?_setIfInBounds]
  by_cases h : d = t
  · subst h; simp [hd]
  · simp [h]

theorem SP.put (hs : SP P nm N r s a w) {dst : Option Tmp} {d : D} (hd : resDst nm N dst = some d) {h' : AH} (st : Stp P r s.h w r' h' w') {v v' : Value} (hv : VR r' v v') :
    SP P nm N r' ⟨pe d s.e v, pl d s.l v, h', s.ds⟩ (a.put dst v') w' := by
  have mono : ∀ {t : Nat} {u : Value}, (∃ u', a.tmps[t]? = some u' ∧ VR r u u') → ∃ u', a.tmps[t]? = some u' ∧ VR r' u u' := fun ⟨u', h1, h2⟩ => ⟨u', h1, h2.mono st.le⟩
  cases dst with
  | none =>
    cases hd
    exact ⟨fun t u h => mono (hs.e t u h), fun t u h => mono (hs.l t u h), hs.en, hs.ln, hs.sz, st.hr, by rw [put_defers]; exact hs.ds.mono st.le⟩
  | some i =>
    simp only [resDst] at hd
    split at hd
    case isFalse => cases hd
    case isTrue hi =>
      have hsz : i < a.tmps.size := Nat.lt_of_lt_of_le hi hs.sz
      have hsize : N ≤ (a.put (some i) v').tmps.size := by simp only [Act.put, Array.size_setIfInBounds]; exact hs.sz
      by_cases hn : nm.contains i = true
      · rw [if_pos hn] at hd; cases hd
        refine ⟨fun t u h => ?_, fun t u h => ?_, fun t u h => ?_, hs.ln, hsize, st.hr, by rw [put_defers]; exact hs.ds.mono st.le⟩
        · simp only [pe, look_upd] at h
          rw [put_get _ _ _ _ hsz]
          split at h
          · rename_i e; cases h; rw [if_pos e]; exact ⟨v', rfl, hv⟩
          · rename_i e; rw [if_neg e]; exact mono (hs.e t u h)
        · rw [put_get _ _ _ _ hsz]
          by_cases e : i = t
          · subst e; have := hs.ln i u h; rw [hn] at this; cases this
          · rw [if_neg e]; exact mono (hs.l t u h)
        · simp only [pe, look_upd] at h
          split at h
          · rename_i e; subst e; exact hn
          · exact hs.en t u h
      · rw [if_neg hn] at hd; cases hd
        have hn' : nm.contains i = false := by cases h : nm.contains i <;> simp_all
        refine ⟨fun t u h => ?_, fun t u h => ?_, hs.en, fun t u h => ?_, hsize, st.hr, by rw [put_defers]; exact hs.ds.mono st.le⟩
        · rw [put_get _ _ _ _ hsz]
          by_cases e : i = t
          · subst e; have := hs.en i u h; rw [hn'] at this; cases this
          · rw [if_neg e]; exact mono (hs.e t u h)
        · simp only [pl, look] at h
          rw [put_get _ _ _ _ hsz]
          split at h
          · rename_i e; cases h; rw [if_pos e]; exact ⟨v', rfl, hv⟩
          · rename_i e; rw [if_neg e]; exact mono (hs.l t u h)
        · simp only [pl, look] at h
          split at h
          · rename_i e; subst e; exact hn'
          · exact hs.ln t u h

/-- What is to be shown of code. -/
def PP (P : Program) (nm : List Nat) (N : Nat) (r : Rho) (h : AH) (w : World) (Φ : Out → PS → Prop) (Q : Exit → Act → World → Prop) : Prop :=
  ∀ out s', Φ out s' → ∀ ex a' w' r', OE r' out ex → Stp P r h w r' s'.h w' → SP P nm N r' s' a' w' → Q ex a' w'

theorem PP.trans {h h1 : AH} {Φ : Out → PS → Prop} {Q : Exit → Act → World → Prop} (st : Stp P r h w r' h1 w') (hQ : PP P nm N r h w Φ Q) : PP P nm N r' h1 w' Φ Q :=
  fun out s' hp ex a' w'' r'' ho st' sr => hQ out s' hp ex a' w'' r'' ho (st.trans st') sr

theorem br_inv {b : Bool} {A B : Prop} (h : br b A B) : (b = true ∧ A) ∨ (b = false ∧ B) := by
  cases b
  · exact .inr ⟨rfl, h⟩
  · exact .inl ⟨rfl, h⟩

theorem look_take1 {l : PE} {t : Nat} {v : Value} (h : look (l.take 1) t = some v) : look l t = some v := by
  cases l with
  | nil => exact h
  | cons p l =>
    obtain ⟨t', u⟩ := p
    simp only [List.take_succ_cons, List.take_zero, look] at h ⊢
    split at h
    · rename_i e; rw [if_pos e]; exact h
    · cases h

theorem resG_want {ops : Array Oper} {o : Oper} {g : Option (RX × Bool)} (hg : resG nm ops o.guard = some g) (hs : SP P nm N r s a w) {A B : Prop} (h : gK g s.e s.l A B) :
    (Region.wanted o (yielded ops a.tmps) = true ∧ A) ∨ (Region.wanted o (yielded ops a.tmps) = false ∧ B) := by
  unfold resG at hg
  unfold Region.wanted
  split at hg
  · rename_i hgd
    cases hg
    rw [hgd]
    exact .inl ⟨rfl, h⟩
  · rename_i j want hgd
    rw [hgd]
    dsimp only
    unfold yielded
    split at hg
    case h_2 => cases hg
    case h_1 d hd =>
      cases hg
      rw [hd]
      obtain ⟨v, hv, h⟩ := vK_inv h
      obtain ⟨b, rfl, h⟩ := bK_inv h
      have hval : a.tmps[d]? = some (.bool b) := by
        by_cases hn : nm.contains d = true
        · rw [if_pos hn] at hv
          obtain ⟨v', h1, h2⟩ := hs.e d _ hv
          rw [h1, h2.bool_inv]
        · rw [if_neg hn] at hv
          obtain ⟨v', h1, h2⟩ := hs.l d _ hv
          rw [h1, h2.bool_inv]
      rcases br_inv h with ⟨h1, h2⟩ | ⟨h1, h2⟩
      · exact .inl ⟨by simp [hval, beq_iff_eq.1 h1], h2⟩
      · refine .inr ⟨?_, h2⟩
        simp only [hval, Option.bind_some]
        exact h1

end
end Go.Eng
