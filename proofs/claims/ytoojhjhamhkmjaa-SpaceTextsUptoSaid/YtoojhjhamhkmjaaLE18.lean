/- The engine, part 18: code whose types are looked up ahead. -/
import Derived.Test.YtoojhjhamhkmjaaLE17
set_option linter.unusedVariables false
set_option linter.unusedSimpArgs false
namespace Go.Eng

abbrev PE := List (Nat × Value)

def look : PE → Nat → Option Value
  | [], _ => none
  | (t, v) :: e, k => if t = k then some v else look e k

/-- A named variable is given a value. -/
def upd : PE → Nat → Value → PE
  | [], k, v => [(k, v)]
  | (t, u) :: e, k, v => if t = k then (k, v) :: e else (t, u) :: upd e k v

theorem look_upd (e : PE) (k : Nat) (v : Value) (t : Nat) : look (upd e k v) t = if k = t then some v else look e t := by
  induction e with
  | nil => rfl
  | cons p e ih =>
    obtain ⟨s, u⟩ := p
    simp only [upd]
    by_cases h : s = k
    · subst h
      simp only [if_true, look]
      by_cases h2 : s = t
      · simp [h2]
      · simp [h2]
    · simp only [h, if_false, look, ih]
      by_cases h2 : s = t
      · subst h2; simp [Ne.symm h]
      · simp [h2]

def rx (e l : PE) : RX → Option Value
  | .n i => look e i
  | .t i => look l i
  | .c v => some v
  | .f id => some (.func (.func id) #[] #[])

def rxs (e l : PE) : List RX → Option (List Value)
  | [] => some []
  | x :: xs => (rx e l x).bind fun v => (rxs e l xs).map fun vs => v :: vs

def resX (nm : List Nat) : Operand → Option RX
  | .tmp t => some (if nm.contains t then .n t else .t t)
  | .const v => if scal 8 v then some (.c v) else none
  | .func f => some (.f f)
  | .global _ => none

def resXs (nm : List Nat) : List Operand → Option (List RX)
  | [] => some []
  | x :: xs => (resX nm x).bind fun v => (resXs nm xs).map fun vs => v :: vs

/-- What operands stand for. -/
def gof (nm : List Nat) (e l : PE) : Operand → Option Value := fun x => (resX nm x).bind (rx e l)

theorem gof_of {nm : List Nat} {e l : PE} {x : Operand} {y : RX} (h : resX nm x = some y) : gof nm e l x = rx e l y := by simp [gof, h]

/-- What operands stand for, as far as the variables that are known say. -/
def GG (nm : List Nat) (e l : PE) (g : Operand → Option Value) : Prop := ∀ {x : Operand} {y : RX} {v : Value}, resX nm x = some y → rx e l y = some v → g x = some v
theorem GG.gof {nm : List Nat} {e l : PE} : GG nm e l (gof nm e l) := fun h k => by rw [gof_of h]; exact k

theorem evs_gof {nm : List Nat} {e l : PE} {g : Operand → Option Value} (hg : GG nm e l g) : ∀ {xs : List Operand} {ys : List RX}, resXs nm xs = some ys → ∀ {vs : List Value}, rxs e l ys = some vs → evs g xs = some vs := by
  intro xs
  induction xs with
  | nil => intro ys h vs hv; cases h; cases hv; rfl
  | cons x xs ih =>
    intro ys h vs hv
    simp only [resXs] at h
    obtain ⟨y, h1, h2⟩ := Option.bind_eq_some_iff.1 h
    obtain ⟨ys', h3, h4⟩ := Option.map_eq_some_iff.1 h2
    subst h4
    simp only [rxs] at hv
    obtain ⟨v, k1, k2⟩ := Option.bind_eq_some_iff.1 hv
    obtain ⟨vs', k3, k4⟩ := Option.map_eq_some_iff.1 k2
    subst k4
    simp only [evs, hg h1 k1, ih h3 k3]

/-- Operations. -/
inductive RK where
  | u (f : U) (x : RX)
  | b (f : B) (x y : RX)
  | pk (c a b : RX)
  | bld (z : List Value) (parts : List (Nat × Nat × RX))
  | bsl (e : TypeId) (n : Nat) (z : List Value) (parts : List (Nat × Nat × RX))
  | mkf (fn : Fn) (first cap : List RX)
  | al (e : TypeId) (z : List Value)
  | mm
  | msl (e : TypeId) (z : List Value) (bytes : Nat) (l c : RX)
  | sls (x : RX) (lo hi : Option RX)
  | sll (e : TypeId) (sz : Nat) (x : RX) (lo hi : Option RX)
  | st (n : Nat) (a x : RX)
  | app (str : Bool) (e : TypeId) (sz bytes : Nat) (z : List Value) (s x : RX)
  | clr (e : TypeId) (z : List Value) (x : RX)
  | cpy (sz : Nat) (str : Bool) (d s : RX)
  | mup (t : TypeId) (m k x : RX)
  | call (f : RX) (args : List RX)
  | dfr (f : RX) (args : List RX)
  | pan (x : RX)
  | raw (o : Oper)

/-- Where a result goes. -/
inductive D where
  | z
  | n (i : Nat)
  | t (i : Nat)

structure RO where
  d : D
  g : Option (RX × Bool)
  k : RK

/-- An operation of a region that draws its order: its place; may it write?; which loads ahead of it must stand behind it; which writers' heaps a load must stand in. -/
structure DO where
  o : RO
  i : Nat
  w : Bool
  chk : List Nat
  old : List Nat

inductive RC where
  | skip
  | rg (l : List RO)
  | dr (need : List RX) (np : Bool) (l : List DO)
  | sq (a b : RC)
  | ite (x : RX) (a b : RC)
  | blk (id : Nat) (b : RC)
  | loop (b : RC)
  | exit (id : Nat)
  | ret

/-! ### What operations come to -/

def vK (x : Option Value) (K : Value → Prop) : Prop := match x with
  | some v => K v
  | none => False
def vsK (x : Option (List Value)) (K : List Value → Prop) : Prop := match x with
  | some v => K v
  | none => False
def rK (x : Option RRes) (h : AH) (K : Value → AH → Prop) : Prop := match x with
  | some (v, none) => K v h
  | some (v, some B) => K v (h ++ [B])
  | none => False
def wK (x : Option (Value × AH)) (K : Value → AH → Prop) : Prop := match x with
  | some (v, h') => K v h'
  | none => False
def hK (x : Option AH) (K : Value → AH → Prop) : Prop := match x with
  | some h' => K undef h'
  | none => False
/-- Two ways. -/
def br (b : Bool) (A B : Prop) : Prop := match b with
  | true => A
  | false => B
def bK (v : Value) (K : Bool → Prop) : Prop := match v with
  | .bool b => K b
  | _ => False
/-- What a call comes to. -/
inductive RP (K : Value → AH → Prop) (Kp : Value → AH → Prop) : Res → AH → Prop where
  | ret {v : Value} {h' : AH} (k : K v h') : RP K Kp (.ret v) h'
  | pan {v : Value} {h' : AH} (k : Kp v h') : RP K Kp (.pan v) h'

/-- A call: what it comes to is known. -/
def cK (P : Program) (f : Value) (args : List Value) (h : AH) (K : Value → AH → Prop) (Kp : Value → AH → Prop) : Prop :=
  ∃ g first cap res h', f = .func (.func g) first cap ∧ Holds P g (first.toList ++ args ++ cap.toList) h res h' ∧ h.length ≤ h'.length ∧ RP K Kp res h'

def rxp (e l : PE) : List (Nat × Nat × RX) → Option (List (Nat × Nat × Value))
  | [] => some []
  | (i, n, x) :: xs => (rx e l x).bind fun v => (rxp e l xs).map fun vs => (i, n, v) :: vs

def pK (x : Option (List (Nat × Nat × Value))) (z : List Value) (K : List Value → Prop) : Prop := match x with
  | some ps => match bldv z ps with
    | some cs => K cs
    | none => False
  | none => False

def mslv (m : Nat) (e : TypeId) (z : List Value) (bytes : Nat) : Value → Value → Option RRes
  | .int _ l, .int _ c =>
    if 0 ≤ l ∧ l ≤ c ∧ c < 9223372036854775808 ∧ bytes * c ≤ 140737488355328 then some (.slice (some ⟨m, 0, none⟩) l.toNat c.toNat, some (row e m (List.replicate c.toNat z).flatten)) else none
  | _, _ => none

def ob (e l : PE) : Option RX → Option (Option Value)
  | none => some none
  | some x => (rx e l x).map some

def slsv : Value → Option Value → Option Value → Option RRes
  | .string s, lo, hi => (bnd s.size s.size hi).bind fun h => (bnd 0 h lo).map fun l => (.string (s.extract l h), none)
  | _, _, _ => none

def sllv (h0 : AH) (e : TypeId) (sz : Nat) : Value → Option Value → Option Value → Option RRes
  | .slice (some ⟨b, o, none⟩) n c, lo, hi => if helem h0 b = some e then (bnd n c hi).bind fun h => (bnd 0 h lo).map fun l => (.slice (some ⟨b, o + l * sz, none⟩) (h - l) (c - l), none) else none
  | .slice none 0 0, lo, hi => (bnd 0 0 hi).bind fun _ => (bnd 0 0 lo).map fun _ => (.slice none 0 0, none)
  | _, _, _ => none

def stv (h : AH) (n : Nat) : Value → Value → Option AH
  | .pointer (some ⟨b, o, none⟩), v => if n = v.cells.size then hstore h b o v.cells.toList else none
  | _, _ => none

/-- What is laid behind a row: how many elements, the cells. -/
def srcv (h : AH) (sz : Nat) (str : Bool) : Value → Option (Nat × List Value)
  | .slice none 0 0 => if str then none else some (0, [])
  | .slice (some ⟨b, o, none⟩) n c => if str then none else if n = 0 then some (0, []) else
      (hcell h b).bind fun cs => if o + n * sz ≤ cs.length && ((cs.drop o).take (n * sz)).all Value.oneCell' then some (n, (cs.drop o).take (n * sz)) else none
  | .string s => if str && sz == 1 then some (s.size, byteCells s) else none
  | _ => none

def appv (keep : Bool) (h : AH) (str : Bool) (e : TypeId) (sz bytes : Nat) (s x : Value) : Option (Value × AH) :=
  (srcv h sz str x).bind fun (n, xs) =>
    match s with
    | .slice none 0 0 =>
      if n = 0 then some (s, h) else
      if n * bytes ≤ 140737488355328 && n ≤ 9223372036854775807 then some (.slice (some ⟨h.length, 0, none⟩) n n, h ++ [row e h.length xs]) else none
    | .slice (some ⟨b, o, none⟩) n0 c0 =>
      if n = 0 then some (s, h) else
      match h[b]? with
      | some (.cells true solo grp del e' cs) =>
        if e' = e && o + n0 * sz ≤ cs.length then
          if n0 + n ≤ c0 then (hstore h b (o + n0 * sz) xs).map fun h' => (.slice (some ⟨b, o, none⟩) (n0 + n) c0, h')
          else if (n0 + n) * bytes ≤ 140737488355328 && n0 + n ≤ 9223372036854775807 then
            some (.slice (some ⟨h.length, 0, none⟩) (n0 + n) (n0 + n),
              hprep keep h b solo grp del e cs (o + n0 * sz) ++ [.cells true (solo && !keep) (if solo && !keep then h.length else grp) (if solo && !keep then 0 else del + o) e ((cs.take (o + n0 * sz)).drop o ++ xs)])
          else none
        else none
      | _ => none
    | _ => none

def clrv (h : AH) (z : List Value) : Value → Option AH
  | .slice none 0 0 => some h
  | .slice (some ⟨b, o, none⟩) n c => if n = 0 then some h else hstore h b o (List.replicate n z).flatten
  | _ => none

def cpyv (h : AH) (sz : Nat) (str : Bool) (d s : Value) : Option (Value × AH) :=
  (srcv h sz str s).bind fun (n, xs) =>
    match d with
    | .slice none 0 0 => some (.int .i64 0, h)
    | .slice (some ⟨b, o, none⟩) dn dc => if n ≤ dn then if n = 0 then some (.int .i64 0, h) else (hstore h b o xs).map fun h' => (.int .i64 n, h') else none
    | _ => none

def wpk (P : Program) (keep : Bool) (nm : List Nat) (e l : PE) (h : AH) (K : Value → AH → Prop) (Kp : Value → AH → Prop) : RK → Prop
  | .u f x => vK (rx e l x) fun v => rK (uval P h h.length f v) h K
  | .b f x y => vK (rx e l x) fun u => vK (rx e l y) fun v => rK (bval P h f u v) h K
  | .pk c a b => vK (rx e l c) fun v => bK v fun t => br t (vK (rx e l a) fun v => K v h) (vK (rx e l b) fun v => K v h)
  | .bld z ps => pK (rxp e l ps) z fun cs => K (.agg cs.toArray) h
  | .bsl t n z ps => pK (rxp e l ps) z fun cs => K (.slice (some ⟨h.length, 0, none⟩) n n) (h ++ [row t h.length cs])
  | .mkf fn first cap => vsK (rxs e l first) fun f => vsK (rxs e l cap) fun c => K (.func fn f.toArray c.toArray) h
  | .al t z => K (.pointer (some ⟨h.length, 0, none⟩)) (h ++ [row t h.length z])
  | .mm => K (.map (some h.length)) (h ++ [.map []])
  | .msl t z bytes x y => vK (rx e l x) fun u => vK (rx e l y) fun v => rK (mslv h.length t z bytes u v) h K
  | .sls x lo hi => vK (rx e l x) fun u => rK ((ob e l lo).bind fun lo => (ob e l hi).bind fun hi => slsv u lo hi) h K
  | .sll t sz x lo hi => vK (rx e l x) fun u => rK ((ob e l lo).bind fun lo => (ob e l hi).bind fun hi => sllv h t sz u lo hi) h K
  | .st n a x => vK (rx e l a) fun u => vK (rx e l x) fun v => hK (stv h n u v) K
  | .app str t sz bytes z s x => vK (rx e l s) fun u => vK (rx e l x) fun v => wK (appv keep h str t sz bytes u v) K
  | .clr t z x => vK (rx e l x) fun u => wK ((clrv h z u).map fun h' => (.tuple #[], h')) K
  | .cpy sz str d s => vK (rx e l d) fun u => vK (rx e l s) fun v => wK (cpyv h sz str u v) K
  | .mup t m k x => vK (rx e l m) fun u => vK (rx e l k) fun kv => vK (rx e l x) fun v => hK (wmapUpdate P h t u kv v) K
  | .call f args => vK (rx e l f) fun fv => vsK (rxs e l args) fun as => cK P fv as h K Kp
  | .pan x => vK (rx e l x) fun v => match v with
    | .iface t v => Kp (.iface t v) h
    | _ => False
  | .dfr _ _ => False
  | .raw o => rK (aread P (gof nm e l) h h.length o) h K

end Go.Eng
