import Derived.Test.YtjacebjfidhcoaaPk12
import Derived.Test.YtjacebjfidhcoaaPk6
/- The engine, part 39: rows of numbers and of structs of numbers; what is said of them in contracts. -/
set_option linter.unusedVariables false
set_option linter.unusedSimpArgs false
namespace Go.Eng

abbrev iv (n : Int) : Value := .int .i64 n

theorem i64w {x : Int} (h0 : -9223372036854775808 ≤ x) (h1 : x ≤ 9223372036854775807) : IntKind.i64.wrap x = x := by
  show (if (true && decide (x % (18446744073709551616 : Int) ≥ (9223372036854775808 : Int))) = true then x % (18446744073709551616 : Int) - (18446744073709551616 : Int) else x % (18446744073709551616 : Int)) = x
  by_cases h : 0 ≤ x
  · have : x % (18446744073709551616 : Int) = x := Int.emod_eq_of_lt h (by omega)
    rw [this, if_neg (by simp; omega)]
  · have : x % (18446744073709551616 : Int) = x + 18446744073709551616 := by omega
    rw [this, if_pos (by simp; omega)]; omega
theorem u8w {x : Int} (h0 : 0 ≤ x) (h1 : x ≤ 255) : IntKind.u8.wrap x = x := by
  show (if (false && decide (x % (256 : Int) ≥ (128 : Int))) = true then x % (256 : Int) - (256 : Int) else x % (256 : Int)) = x
  rw [if_neg (by simp)]; omega

theorem row_shape {h : AH} {sz n : Nat} {v : Value} {cs : List Value} (hr : Rds h sz v n cs) : ∃ a c, v = .slice a n c := by
  cases hr with
  | nil => exact ⟨_, _, rfl⟩
  | emp => exact ⟨_, _, rfl⟩
  | mk => exact ⟨_, _, rfl⟩

theorem ct1 {a b : Nat} : [a].contains b = decide (b = a) := by simp [List.contains_cons]

/-- Numbers as cells. -/
def ns (xs : List Int) : List Value := xs.map iv
theorem ns_len (xs : List Int) : (ns xs).length = xs.length := by simp [ns]
theorem ns_get (xs : List Int) (i : Nat) : (ns xs)[i]? = (xs[i]?).map iv := by simp [ns]
theorem ns_one (xs : List Int) : (ns xs).all Value.oneCell' = true := by simp [ns, Value.oneCell']
theorem ns_app (a b : List Int) : ns (a ++ b) = ns a ++ ns b := by simp [ns]

/-- A row of numbers at a place. -/
theorem rds_ix {h : AH} {v : Value} {n : Nat} {xs : List Int} (hr : Rds h 1 v n (ns xs)) {i : Int} (h0 : 0 ≤ i) {x : Int} (hx : xs[i.toNat]? = some x) :
    ∃ b o c, v = .slice (some ⟨b, o, none⟩) n c ∧ i < n ∧ ldc h b (o + i.toNat) = some (iv x) := by
  have hlen := hr.len
  rw [ns_len, Nat.mul_one] at hlen
  have hl : i.toNat < xs.length := (List.getElem?_eq_some_iff.1 hx).1
  obtain ⟨b, o, c, e, k⟩ := hr.at (i := i.toNat) (by omega)
  refine ⟨b, o, c, e, by omega, ?_⟩
  have := k 0 (by omega)
  rw [Nat.mul_one, Nat.add_zero, Nat.add_zero] at this
  rw [this, ns_get, hx]; rfl

theorem ows_open {h : AH} {e n : Nat} {v : Value} {cs : List Value} (ho : Ows h e 1 v n cs) (hn : 0 < n) : ∃ b c all, v = .slice (some ⟨b, 0, none⟩) n c ∧ Own h b e all ∧ all.length = c ∧ n ≤ c ∧ all.take n = cs := by
  cases ho with
  | nil => omega
  | @mk b n c all cs h1 h2 h3 h4 => exact ⟨b, c, all, rfl, h1, by rw [h2, Nat.mul_one], by omega, by simpa using h4⟩

/-- One more, of some cells, laid behind a row of one's own. -/
theorem app1 {h : AH} {e n sz bytes : Nat} {v : Value} {xs cs : List Value} (ho : Ows h e sz v n cs) (hl : xs.length = sz) (hx : xs.all Value.oneCell' = true) (hb : (n + 1) * bytes ≤ 140737488355328) (hb2 : n + 1 ≤ 9223372036854775807) :
    ∃ s' h', appv false (h ++ [row e h.length xs]) false e sz bytes v (.slice (some ⟨h.length, 0, none⟩) 1 1) = some (s', h') ∧ Ows h' e sz s' (n + 1) (cs ++ xs) ∧ Keep (bk v) h h' ∧ (∀ q, bk s' q → bk v q ∨ h.length ≤ q) := by
  have k0 : Keep (fun _ => False) h (h ++ [row e h.length xs]) := Keep.push _ _ _
  have hr : Rds (h ++ [row e h.length xs]) sz (.slice (some ⟨h.length, 0, none⟩) 1 1) 1 xs := .mk (Own.new h e _ xs).cells (by simp [hl]) (by simp [← hl])
  obtain ⟨_, hsrc, rfl⟩ := hr.src hx
  obtain ⟨s', h', k1, k2, k3, k4⟩ := (ho.keep k0 (fun _ _ e => e)).app (bytes := bytes) hsrc (by simp [hl]) hx hb hb2
  exact ⟨s', h', k1, k2, (k0.mono (fun _ e => e.elim)).trans k3, fun q hq => (k4 q hq).imp id (fun e => by simp at e; omega)⟩

/-- Structs of so many numbers as cells. -/
def rowsOf {α : Type} (f : α → List Int) (l : List α) : List Value := l.flatMap fun x => ns (f x)
theorem rowsOf_len {α : Type} {f : α → List Int} {k : Nat} (hk : ∀ x, (f x).length = k) (l : List α) : (rowsOf f l).length = l.length * k := by
  induction l with
  | nil => simp [rowsOf]
  | cons x l ih =>
    have : rowsOf f (x :: l) = ns (f x) ++ rowsOf f l := by simp [rowsOf]
    rw [this, List.length_append, ih, ns_len, hk, List.length_cons, Nat.add_mul]; omega
theorem rowsOf_get {α : Type} {f : α → List Int} {k : Nat} (hk : ∀ x, (f x).length = k) : ∀ (l : List α) (i j : Nat), j < k → (rowsOf f l)[i * k + j]? = (l[i]?).bind fun x => ((f x)[j]?).map iv := by
  intro l
  induction l with
  | nil => intro i j hj; simp [rowsOf]
  | cons x l ih =>
    intro i j hj
    have e : rowsOf f (x :: l) = ns (f x) ++ rowsOf f l := by simp [rowsOf]
    rw [e]
    cases i with
    | zero => rw [Nat.zero_mul, Nat.zero_add, List.getElem?_append_left (by rw [ns_len, hk]; exact hj), ns_get]; simp
    | succ i =>
      rw [List.getElem?_append_right (by rw [ns_len, hk, Nat.add_mul]; omega), ns_len, hk]
      rw [show (i + 1) * k + j - k = i * k + j by rw [Nat.add_mul]; omega, ih i j hj]
      simp
theorem rowsOf_one {α : Type} {f : α → List Int} (l : List α) : (rowsOf f l).all Value.oneCell' = true := by
  simp only [List.all_eq_true, rowsOf, List.mem_flatMap, ns, List.mem_map]
  rintro v ⟨x, _, n, _, rfl⟩; rfl
theorem rowsOf_app {α : Type} {f : α → List Int} (a b : List α) : rowsOf f (a ++ b) = rowsOf f a ++ rowsOf f b := by simp [rowsOf]

/-- A row of structs at a place, a field. -/
theorem rds_fld {α : Type} {f : α → List Int} {k : Nat} (h0 : 0 < k) (hk : ∀ x, (f x).length = k) {h : AH} {v : Value} {n : Nat} {xs : List α} (hr : Rds h k v n (rowsOf f xs)) {i : Nat} {x : α} (hx : xs[i]? = some x) :
    ∃ b o c, v = .slice (some ⟨b, o, none⟩) n c ∧ i < n ∧ ∀ j, j < k → ldc h b (o + i * k + j) = ((f x)[j]?).map iv := by
  have hl : i < xs.length := (List.getElem?_eq_some_iff.1 hx).1
  have hn : i < n := by
    have := hr.len
    rw [rowsOf_len hk] at this
    exact Nat.lt_of_lt_of_le hl (Nat.le_of_mul_le_mul_right (Nat.le_of_eq this) h0)
  obtain ⟨b, o, c, e, kk⟩ := hr.at (i := i) hn
  refine ⟨b, o, c, e, hn, fun j hj => ?_⟩
  rw [kk j hj, rowsOf_get hk xs i j hj, hx]; rfl

/-- A row of structs at a place, whole. -/
theorem rds_str {α : Type} {f : α → List Int} {k : Nat} (h0 : 0 < k) (hk : ∀ x, (f x).length = k) {h : AH} {v : Value} {n : Nat} {xs : List α} (hr : Rds h k v n (rowsOf f xs)) {i : Nat} {x : α} (hx : xs[i]? = some x) :
    ∃ b o c, v = .slice (some ⟨b, o, none⟩) n c ∧ i < n ∧ ldcs h b (o + i * k) k = some (ns (f x)) := by
  obtain ⟨b, o, c, e, hn, hj⟩ := rds_fld h0 hk hr hx
  refine ⟨b, o, c, e, hn, ?_⟩
  subst e
  generalize hcs : rowsOf f xs = cs at hr
  cases hr with
  | emp => omega
  | mk hb hl hc =>
    have hle : i * k + k ≤ n * k := by
      have := Nat.mul_le_mul_right k (show i + 1 ≤ n by omega)
      rwa [Nat.add_mul, Nat.one_mul] at this
    rw [hb.lds _ _ (by omega)]
    congr 1
    apply List.ext_getElem?
    intro j
    by_cases hjk : j < k
    · rw [List.getElem?_take, if_pos hjk, List.getElem?_drop, ns_get, ← hj j hjk, hb.ld]
    · rw [List.getElem?_eq_none (by simp; omega), List.getElem?_eq_none (by rw [ns_len, hk]; omega)]

end Go.Eng

/- The engine, part 40: maps of numbers. -/
set_option linter.unusedVariables false
set_option linter.unusedSimpArgs false
namespace Go.Eng

/-- A map's entries. -/
def mp (l : List (Int × Int)) : List (Value × Value) := l.map fun p => (iv p.1, iv p.2)
def mix (k : Int) : List (Int × Int) → Nat → Option Nat
  | [], _ => none
  | p :: l, i => if p.1 = k then some i else mix k l (i + 1)
def mget (k : Int) : List (Int × Int) → Option Int
  | [] => none
  | p :: l => if p.1 = k then some p.2 else mget k l

theorem mget_app {k : Int} {l m : List (Int × Int)} : mget k (l ++ m) = match mget k l with
    | some v => some v
    | none => mget k m := by
  induction l with
  | nil => rfl
  | cons p l ih =>
    simp only [List.cons_append, mget]
    split
    · rfl
    · exact ih
theorem mix_get {k : Int} : ∀ {l : List (Int × Int)} {i j : Nat}, mix k l i = some j → i ≤ j ∧ ∃ v, l[j - i]? = some (k, v) ∧ mget k l = some v := by
  intro l
  induction l with
  | nil => intro i j h; cases h
  | cons p l ih =>
    intro i j h
    simp only [mix] at h
    split at h
    · rename_i e
      cases h
      refine ⟨Nat.le_refl _, p.2, by rw [Nat.sub_self]; obtain ⟨a, b⟩ := p; simp at e; subst e; rfl, by simp [mget, e]⟩
    · rename_i e
      obtain ⟨h1, v, h2, h3⟩ := ih h
      refine ⟨by omega, v, ?_, by simp [mget, e, h3]⟩
      rw [show j - i = (j - (i + 1)) + 1 by omega]; simpa using h2
theorem mix_none {k : Int} : ∀ {l : List (Int × Int)} {i : Nat}, mix k l i = none → mget k l = none := by
  intro l
  induction l with
  | nil => intro i h; rfl
  | cons p l ih =>
    intro i h
    simp only [mix] at h
    split at h
    · cases h
    · rename_i e; simp [mget, e, ih h]

section
variable {P : Program} {kt : TypeId}
theorem find_int (k : Int) : ∀ (l : List (Int × Int)) (i : Nat), Instr.findNow (.int .i64) (iv k) ((mp l).map entryOf) i = some ((mix k l i).bind fun j => (l[j - i]?).map fun p => (j, iv p.2)) := by
  intro l
  induction l with
  | nil => intro i; rfl
  | cons p l ih =>
    intro i
    obtain ⟨a, b⟩ := p
    simp only [mp, List.map_cons, Instr.findNow, entryOf, mix]
    by_cases e : a = k
    · subst e
      have : Instr.sameNow (.int .i64) (iv a) (iv a) = some true := by simp [Instr.sameNow]
      simp [this]
    · have : Instr.sameNow (.int .i64) (iv k) (iv a) = some false := by simp [Instr.sameNow]; exact fun h => e h.symm
      simp only [this, e, if_false]
      have h2 := ih (i + 1)
      simp only [mp] at h2
      rw [h2]
      cases hm : mix k l (i + 1) with
      | none => rfl
      | some j =>
        obtain ⟨h3, v, h4, _⟩ := mix_get hm
        simp only [Option.bind_some, h4, Option.map_some]
        rw [show j - i = (j - (i + 1)) + 1 by omega]
        simp [h4]

theorem keys_mp (l : List (Int × Int)) : keysScal (mp l) = true := by
  simp [keysScal, mp, scal]

theorem check_int (hu : P.underlying kt = some (.int .i64)) (e : Bool) (k : Int) : pureRun P (Instr.checkKey e 10000 kt (iv k)) = some () := by
  show pureRun P (Instr.checkKey e (9999 + 1) kt (iv k)) = some ()
  rw [Instr.checkKey]
  simp only [pureRun_bind, pureRun_underlying hu, Option.bind_some]; rfl

theorem rfind_int (hu : P.underlying kt = some (.int .i64)) (k : Int) (l : List (Int × Int)) : rfind P kt (iv k) (mp l) = some (mix k l 0) := by
  have hk : pureRun P (Instr.findKey kt (iv k) ((mp l).map entryOf)) = some ((mix k l 0).bind fun j => (l[j - 0]?).map fun p => (j, iv p.2)) := by
    simp only [Instr.findKey, pureRun_bind, pureRun_underlying hu, Option.bind_some, find_int]; rfl
  unfold rfind
  rw [if_pos (by simp [keys_mp, scal]), check_int hu, hk]
  cases hm : mix k l 0 with
  | none => rfl
  | some j =>
    obtain ⟨_, v, h4, _⟩ := mix_get hm
    simp only [Option.bind_some, h4, Option.map_some]

/-- A map of one's own. -/
def MOwn (h : AH) (b : Nat) (l : List (Int × Int)) : Prop := h[b]? = some (.map (mp l))
theorem MOwn.lt {h : AH} {b : Nat} {l : List (Int × Int)} (m : MOwn h b l) : b < h.length := (List.getElem?_eq_some_iff.1 m).1
theorem MOwn.keep {S : Nat → Prop} {h h' : AH} {b : Nat} {l : List (Int × Int)} (m : MOwn h b l) (k : Keep S h h') (hs : ¬ S b) : MOwn h' b l := k.get m hs
theorem MOwn.new (h : AH) : MOwn (h ++ [.map []]) h.length [] := by simp [MOwn, mp]

theorem lk_some {h : AH} {b : Nat} {l : List (Int × Int)} {k v : Int} {z : Value} {ok : Bool} (hu : P.underlying kt = some (.int .i64)) (m : MOwn h b l) (hg : mget k l = some v) :
    bval P h (.lk kt z ok) (.map (some b)) (iv k) = some (if ok then .tuple #[iv v, .bool true] else iv v, none) := by
  have hm : hmap h b = some (mp l) := by simp [hmap, show h[b]? = _ from m]
  simp only [bval, hm, rfind_int hu]
  cases hx : mix k l 0 with
  | none => rw [mix_none hx] at hg; cases hg
  | some j =>
    obtain ⟨_, v', h4, h5⟩ := mix_get hx
    rw [hg] at h5; cases h5
    simp only [Nat.sub_zero] at h4
    simp [mp, h4]
theorem lk_none {h : AH} {b : Nat} {l : List (Int × Int)} {k : Int} {z : Value} {ok : Bool} (hu : P.underlying kt = some (.int .i64)) (m : MOwn h b l) (hg : mget k l = none) :
    bval P h (.lk kt z ok) (.map (some b)) (iv k) = some (if ok then .tuple #[z, .bool false] else z, none) := by
  have hm : hmap h b = some (mp l) := by simp [hmap, show h[b]? = _ from m]
  simp only [bval, hm, rfind_int hu]
  cases hx : mix k l 0 with
  | none => rfl
  | some j =>
    obtain ⟨_, v', h4, h5⟩ := mix_get hx
    rw [hg] at h5; cases h5
/-- A nil map. -/
theorem lk_nil {h : AH} {k : Int} {z : Value} {ok : Bool} (hu : P.underlying kt = some (.int .i64)) :
    bval P h (.lk kt z ok) (.map none) (iv k) = some (if ok then .tuple #[z, .bool false] else z, none) := by
  have := rfind_int hu k []
  simp only [mp, List.map_nil, mix] at this
  simp only [bval, this]
theorem mup_new {h : AH} {b : Nat} {t et : TypeId} {l : List (Int × Int)} {k v : Int} (ht : P.underlying t = some (.map kt et)) (hu : P.underlying kt = some (.int .i64)) (m : MOwn h b l) (hg : mget k l = none) :
    ∃ h', wmapUpdate P h t (.map (some b)) (iv k) (iv v) = some h' ∧ MOwn h' b (l ++ [(k, v)]) ∧ Keep (· = b) h h' ∧ h'.length = h.length := by
  have hm : hmap h b = some (mp l) := by simp [hmap, show h[b]? = _ from m]
  have hx : mix k l 0 = none := by
    cases hx : mix k l 0 with
    | none => rfl
    | some j =>
      obtain ⟨_, v', _, h5⟩ := mix_get hx
      rw [hg] at h5; cases h5
  refine ⟨h.set b (.map (mp l ++ [(iv k, iv v)])), ?_, ?_, .set h b _, by simp⟩
  · simp only [wmapUpdate, ht, hm, rfind_int hu, hx, check_int hu]
  · have := m.lt
    simp [MOwn, mp, this]
end
end Go.Eng

/- The engine, part 41: what arguments hold. -/
set_option linter.unusedVariables false
set_option linter.unusedSimpArgs false
namespace Go.Eng

section
variable {P : Program} {H : Type} {h : AH}

/-- An int's range. -/
def rng (n : Int) : Prop := -9223372036854775808 ≤ n ∧ n ≤ 9223372036854775807

theorem rdI {t : TypeId} {cs : List Value} {d : DataW H} (hu : P.underlying t = some (.int .i64)) (hr : Rd' P h t cs d) : ∃ n, cs = [iv n] ∧ rng n := by
  cases hr with
  | bool h' => rw [hu] at h'; cases h'
  | int h' n hw =>
    rw [hu] at h'; cases h'
    refine ⟨n, rfl, ?_⟩
    simpa [Lit.wf, IntKind.min, IntKind.max, IntKind.signed, IntKind.bits, rng] using hw
  | str h' => rw [hu] at h'; cases h'
  | snil h' => rw [hu] at h'; cases h'
  | sempty h' => rw [hu] at h'; cases h'
  | slice h' => rw [hu] at h'; cases h'
  | struct h' => rw [hu] at h'; cases h'
  | array h' => rw [hu] at h'; cases h'

theorem rdS {t : TypeId} {cs : List Value} {d : DataW H} (B : Bulk H) (hu : P.underlying t = some .string) (hr : Rd' P h t cs d) : ∃ s : ByteArray, cs = [.string s] ∧ s.size ≤ B.f d := by
  cases hr with
  | bool h' => rw [hu] at h'; cases h'
  | int h' => rw [hu] at h'; cases h'
  | str h' s hs => exact ⟨s, rfl, by rw [B.str]; simp⟩
  | snil h' => rw [hu] at h'; cases h'
  | sempty h' => rw [hu] at h'; cases h'
  | slice h' => rw [hu] at h'; cases h'
  | struct h' => rw [hu] at h'; cases h'
  | array h' => rw [hu] at h'; cases h'

theorem flat_of {α : Type} {f : α → List Value} {Q : α → Prop} : ∀ (css : List (List Value)), (∀ cs ∈ css, ∃ x, cs = f x ∧ Q x) → ∃ xs : List α, css.flatten = xs.flatMap f ∧ xs.length = css.length ∧ ∀ x ∈ xs, Q x := by
  intro css
  induction css with
  | nil => intro _; exact ⟨[], rfl, rfl, fun x hx => by cases hx⟩
  | cons cs css ih =>
    intro h
    obtain ⟨x, rfl, hx⟩ := h cs List.mem_cons_self
    obtain ⟨xs, h1, h2, h3⟩ := ih fun c hc => h c (List.mem_cons_of_mem _ hc)
    exact ⟨x :: xs, by simp [h1], by simp [h2], fun y hy => (List.mem_cons.1 hy).elim (fun e => e ▸ hx) (h3 y)⟩
theorem flat_len {α : Type} {f : α → List Value} {k : Nat} (hf : ∀ x, (f x).length = k) (xs : List α) : (xs.flatMap f).length = xs.length * k := by
  induction xs with
  | nil => simp
  | cons x xs ih => rw [List.flatMap_cons, List.length_append, ih, hf, List.length_cons, Nat.add_mul]; omega

/-- A row, by what each element is. -/
theorem rdRow {α : Type} {f : α → List Value} {Q : α → Prop} {k N : Nat} (B : Bulk H) {t e : TypeId} {v : Value} {d : DataW H} (hu : P.underlying t = some (.slice e)) (hf : ∀ x, (f x).length = k)
    (el : ∀ (cs : List Value) (d' : DataW H), Rd' P h e cs d' → B.f d' ≤ N → ∃ x, cs = f x ∧ Q x) (hr : Rd' P h t [v] d) (hB : B.f d ≤ N) :
    ∃ xs : List α, Rds h k v xs.length (xs.flatMap f) ∧ (∀ x ∈ xs, Q x) ∧ xs.length ≤ N := by
  generalize hc : [v] = cs at hr
  cases hr with
  | bool hu' => rw [hu] at hu'; cases hu'
  | int hu' => rw [hu] at hu'; cases hu'
  | str hu' => rw [hu] at hu'; cases hu'
  | snil hu' => cases hc; exact ⟨[], .nil, (fun x hx => nomatch hx), Nat.zero_le _⟩
  | sempty hu' => cases hc; exact ⟨[], .emp, (fun x hx => nomatch hx), Nat.zero_le _⟩
  | slice hu' hcell hel hn hd hm hsz each =>
    rename_i e' b n css ds rest
    cases hc
    rw [hu] at hu'; cases hu'
    obtain ⟨xs, h1, h2, h3⟩ := flat_of (f := f) (Q := Q) css (fun cs hcs => by
      obtain ⟨i, hi, e⟩ := List.getElem_of_mem hcs
      have hid : i < ds.length := by omega
      exact el cs ds[i] (each i cs ds[i] (by rw [List.getElem?_eq_getElem hi, e]) (List.getElem?_eq_getElem hid)) (Nat.le_trans (B.elem (List.getElem?_eq_getElem hid)) hB))
    have hxn : xs.length = n := by omega
    refine ⟨xs, ?_, h3, by have := B.slen ds rest; omega⟩
    rw [hxn]
    have hl := flat_len hf xs
    refine .mk hcell ?_ ?_
    · rw [h1, hl, hxn]; omega
    · rw [h1, List.drop_zero, List.take_of_length_le (by rw [hl, hxn]; omega)]
  | struct hu' => rw [hu] at hu'; cases hu'
  | array hu' => rw [hu] at hu'; cases hu'

/-- A struct, by its fields' types and offsets. -/
theorem rdT {t : TypeId} {fs : Array Field} {l : List (Nat × Nat)} {cs : List Value} {d : DataW H} (B : Bulk H) (hu : P.underlying t = some (.struct fs)) (hl : (fs.map fun f => (f.type, f.offset)).toList = l) (hr : Rd' P h t cs d) :
    cs.length = P.cellsOf t ∧ ∀ (i : Nat) (ty off : Nat), l[i]? = some (ty, off) → ∃ d', Rd' P h ty ((cs.drop off).take (P.cellsOf ty)) d' ∧ B.f d' ≤ B.f d := by
  cases hr with
  | bool h' => rw [hu] at h'; cases h'
  | int h' => rw [hu] at h'; cases h'
  | str h' => rw [hu] at h'; cases h'
  | snil h' => rw [hu] at h'; cases h'
  | sempty h' => rw [hu] at h'; cases h'
  | slice h' => rw [hu] at h'; cases h'
  | array h' => rw [hu] at h'; cases h'
  | struct h' hlen hd each =>
    rename_i fs' ds
    rw [hu] at h'; cases h'
    refine ⟨hlen, fun i ty off hi => ?_⟩
    subst hl
    rw [Array.toList_map, List.getElem?_map] at hi
    obtain ⟨f, h1, h2⟩ := Option.map_eq_some_iff.1 hi
    simp only [Prod.mk.injEq] at h2
    have h1' : fs[i]? = some f := by simpa using h1
    have hi' : i < fs.size := (Array.getElem?_eq_some_iff.1 h1').1
    have hid : i < ds.length := by omega
    have := each i f ds[i] h1' (List.getElem?_eq_getElem hid)
    rw [h2.1, h2.2] at this
    exact ⟨ds[i], this, B.field (List.getElem?_eq_getElem hid)⟩

/-- Some cells of an element. -/
theorem rds_sub {sz n : Nat} {v : Value} {cs : List Value} (hr : Rds h sz v n cs) {i j m : Nat} (hi : i < n) (hj : j + m ≤ sz) : ∃ b o c, v = .slice (some ⟨b, o, none⟩) n c ∧ ldcs h b (o + i * sz + j) m = some ((cs.drop (i * sz + j)).take m) := by
  cases hr with
  | nil => omega
  | emp => omega
  | @mk b o n c all cs hb hl hx =>
    have e : i * sz + sz ≤ n * sz := by
      have := Nat.mul_le_mul_right sz (show i + 1 ≤ n by omega)
      rw [Nat.add_mul, Nat.one_mul] at this; exact this
    refine ⟨b, o, c, rfl, ?_⟩
    rw [hb.lds (o + i * sz + j) m (by omega), ← hx, List.drop_take, List.drop_drop, List.take_take, Nat.add_assoc, Nat.min_eq_left (by omega)]
theorem flat_at {α : Type} {f : α → List Value} {k : Nat} (hf : ∀ x, (f x).length = k) : ∀ {xs : List α} {i : Nat} {x : α}, xs[i]? = some x → ∀ {j m : Nat}, j + m ≤ k → ((xs.flatMap f).drop (i * k + j)).take m = ((f x).drop j).take m := by
  intro xs
  induction xs with
  | nil => intro i x h; simp at h
  | cons y xs ih =>
    intro i x h j m hj
    rw [List.flatMap_cons]
    cases i with
    | zero =>
      simp at h; subst h
      rw [Nat.zero_mul, Nat.zero_add, List.drop_append_of_le_length (by rw [hf]; omega), List.take_append_of_le_length (by rw [List.length_drop, hf]; omega)]
    | succ i =>
      have := ih (i := i) (by simpa using h) hj
      rw [← this, show (i + 1) * k + j = (f y).length + (i * k + j) by rw [hf, Nat.add_mul]; omega, ← List.drop_drop, List.drop_left]
end
end Go.Eng

/- The engine, part 42: a run in which some tests are said ahead: what they come to is shown by hand. -/
set_option linter.unusedVariables false
set_option linter.unusedSimpArgs false
namespace Go.Eng
open Go.RowKit

/-- What is said of tests: by the place of their result. -/
abbrev Says := Nat → Option Bool
def sayDst (say : Says) (o : Oper) : Option Bool := o.dst.bind say

/-- Operations; of a test that is said, what it came to is noted, and what was said is taken. -/
def aopsX (P : Program) (F : FT) (keep : Bool) (say : Says) (ops : Array Oper) : List Oper → St → Option (Out × St × List (Value × Bool))
  | [], s => some (.norm, s, [])
  | o :: l, s =>
    match wantA ops s.env o with
    | some true => match sayDst say o with
      | some b => match aopv P F keep s.env s.h o with
        | some (.ret v, h') => match o.op with
          | .defer _ => none
          | _ => match aopsX P F keep say ops l ⟨putv s.env o.dst (.bool b), h', s.ds⟩ with
            | some (x, s', q) => some (x, s', (v, b) :: q)
            | none => none
        | _ => none
      | none => match aop P F keep o s with
        | some (.norm, s') => aopsX P F keep say ops l s'
        | some (x, s') => some (x, s', [])
        | none => none
    | some false => aopsX P F keep say ops l ⟨putv s.env o.dst undef, s.h, s.ds⟩
    | none => none

def acodeX (P : Program) (F : FT) (D : DT) (keep : Bool) (say : Says) : Nat → Code → St → Option (Out × St × List (Value × Bool))
  | 0, _, _ => none
  | n + 1, c, s => match c with
    | .region _ ops false => aopsX P F keep say ops ops.toList s
    | .seq a b => match acodeX P F D keep say n a s with
      | some (.norm, s', q) => match acodeX P F D keep say n b s' with
        | some (x, s'', q') => some (x, s'', q ++ q')
        | none => none
      | x => x
    | .cond c t e => match ev s.env c with
      | some (.bool true) => acodeX P F D keep say n t s
      | some (.bool false) => acodeX P F D keep say n e s
      | _ => none
    | c => (acode P F D keep (n + 1) c s).map fun x => (x.1, x.2, [])

/-- All tests came to what was said. -/
def Said (q : List (Value × Bool)) : Prop := ∀ p, p ∈ q → p.1 = .bool p.2
theorem Said.l {q q' : List (Value × Bool)} (h : Said (q ++ q')) : Said q := fun p hp => h p (List.mem_append_left _ hp)
theorem Said.r {q q' : List (Value × Bool)} (h : Said (q ++ q')) : Said q' := fun p hp => h p (List.mem_append_right _ hp)

theorem aopsX_ok {P : Program} {F : FT} {keep : Bool} {say : Says} {ops : Array Oper} : ∀ (l : List Oper) {s s' : St} {x : Out} {q : List (Value × Bool)}, aopsX P F keep say ops l s = some (x, s', q) → Said q → aops P F keep ops l s = some (x, s') := by
  intro l
  induction l with
  | nil => intro s s' x q h hq; simp only [aopsX, Option.some.injEq, Prod.mk.injEq] at h; obtain ⟨rfl, rfl, _⟩ := h; rfl
  | cons o l ih =>
    intro s s' x q h hq
    simp only [aopsX] at h
    simp only [aops]
    split at h
    · rename_i hw
      rw [hw]
      split at h
      · rename_i b hb
        split at h
        · rename_i v h' hv
          split at h
          · cases h
          · rename_i hnd
            split at h
            · rename_i x' s1 q' hl
              simp only [Option.some.injEq, Prod.mk.injEq] at h
              obtain ⟨rfl, rfl, rfl⟩ := h
              have e : v = .bool b := hq (v, b) (List.mem_cons_self ..)
              have ha : aop P F keep o s = some (.norm, ⟨putv s.env o.dst (.bool b), h', s.ds⟩) := by
                unfold aop
                split
                · rename_i c hc; exact absurd hc (hnd c)
                · simp only [hv, e]
              simp only [ha]
              exact ih hl (fun p hp => hq p (List.mem_cons_of_mem _ hp))
            · cases h
        · cases h
      · split at h
        · rename_i s1 ha
          simp only [ha]
          exact ih h hq
        · rename_i x' s1 hne ha
          simp only [Option.some.injEq, Prod.mk.injEq] at h
          obtain ⟨rfl, rfl, _⟩ := h
          simp only [ha]
          cases x' with
          | norm => exact (hne rfl).elim
          | _ => rfl
        · cases h
    · rename_i hw
      rw [hw]
      exact ih h hq
    · cases h

theorem acodeX_ok {P : Program} {F : FT} {D : DT} {keep : Bool} {say : Says} : ∀ (n : Nat) (c : Code) {s s' : St} {x : Out} {q : List (Value × Bool)}, acodeX P F D keep say n c s = some (x, s', q) → Said q → acode P F D keep n c s = some (x, s') := by
  intro n
  induction n with
  | zero => intro c s s' x q h; cases h
  | succ n ih =>
    intro c s s' x q h hq
    unfold acodeX at h
    split at h
    · rename_i id ops
      simp only [acode]
      exact aopsX_ok _ h hq
    · rename_i a b
      simp only [acode]
      split at h
      · rename_i s1 q1 h1
        split at h
        · rename_i x2 s2 q2 h2
          simp only [Option.some.injEq, Prod.mk.injEq] at h
          obtain ⟨rfl, rfl, rfl⟩ := h
          simp only [ih a h1 hq.l]
          exact ih b h2 hq.r
        · cases h
      · rename_i hne
        have := ih a h hq
        rw [this]
        cases x with
        | norm => exact absurd h (by intro e; exact hne _ _ e)
        | _ => rfl
    · rename_i c t e
      simp only [acode]
      split at h
      · rename_i hc; simp only [hc]; exact ih t h hq
      · rename_i hc; simp only [hc]; exact ih e h hq
      · cases h
    · obtain ⟨p, h1, h2⟩ := Option.map_eq_some_iff.1 h
      simp only [Prod.mk.injEq] at h2
      obtain ⟨rfl, rfl, _⟩ := h2
      exact h1

/-- A run that returns true, if its tests came to what was said: the tests. -/
def tests (P : Program) (rs : List ResultVar) : Option (Out × St × List (Value × Bool)) → Option (List (Value × Bool))
  | some (.ret, ⟨env, h, []⟩, q) => match ares P env h rs with
    | some [.bool true] => some q
    | _ => none
  | _ => none
theorem tests_inv {P : Program} {rs : List ResultVar} {x : Option (Out × St × List (Value × Bool))} {q : List (Value × Bool)} (h : tests P rs x = some q) : ∃ env hh, x = some (.ret, ⟨env, hh, []⟩, q) ∧ ares P env hh rs = some [.bool true] := by
  unfold tests at h
  split at h
  · split at h
    · rename_i hr; cases h; exact ⟨_, _, rfl, hr⟩
    · cases h
  · cases h

theorem calls_said {P : Program} {f : FuncId} {fn : Func} {c : Code} {F : FT} {keep : Bool} {fuel : Nat} {say : Says} {args : List Value} {q : List (Value × Bool)} (hP : noGoroutines P = true) (hm : P.follows .mixedOrders = true) (hf : P.funcs[f]? = some fn) (hb : fn.body = some c) (hF : FOk P F)
    (he : tests P fn.results.toList (acodeX P F (adraw P keep F) keep say fuel c ⟨args ++ List.replicate (fn.ntmps - args.length) undef, [], []⟩) = some q) (hq : Said q)
    {args' : Array Value} (ha : VL (fun _ => none) args args'.toList) (w : World) :
    Calls P f args' w fun e w' => e = .returned (.bool true) ∧ Below w.heap.size w w' := by
  obtain ⟨env, hh, h1, h2⟩ := tests_inv he
  have h3 := acodeX_ok _ _ h1 hq
  have h4 := Holds.run hP hm hf hb hF keep fuel h3 (.inr rfl) h2
  refine Calls.mono (h4.calls hP hf hb (HR.empty P w.heap) ha) fun e w' h => ?_
  obtain ⟨v', r', rfl, st, hv⟩ := h
  exact ⟨by rw [VR.bool_inv hv], st.below⟩

/-- Of a run's heap only a part is kept in mind. -/
theorem Holds.forget {P : Program} {f : FuncId} {args : List Value} {h h' hx : AH} {v : Value} (hc : Holds P f args h (.ret v) h') (hl : hx.length = h'.length)
    (hk : ∀ (b : Nat) (B : Blk), hx[b]? = some B → B.live = true → h'[b]? = some B) (hg : ∀ b : Nat, h[b]? = some .gone → hx[b]? = some .gone) : Holds P f args h (.ret v) hx := by
  intro r w args' hr hargs o a K Q hK hQ
  refine hc r w args' hr hargs o a K Q (fun v1 v' w' r' e st hvr => ?_) (fun v1 v' w' r' e => by cases e)
  cases e
  refine hK v v' w' r' rfl ⟨st.le, ⟨fun b x e => ?_, fun b B e hlv => ?_, fun b b' B B' x x' e e' hne hw hlv hx1 hx2 heq => ?_⟩, st.fr, fun b B x e hlv hx1 hlt => ?_, by have := st.len; omega, hg⟩ hvr
  · have := st.hr.dom b x e
    exact ⟨by omega, this.2⟩
  · exact st.hr.blk b B (hk b B e hlv) hlv
  · exact st.hr.sep b b' B B' x x' (hk b B e (Blk.live_of_wr hw)) (hk b' B' e' hlv) hne hw hlv hx1 hx2 heq
  · exact st.own b B x (hk b B e hlv) hlv hx1 hlt

/-- The same, two functions by their contracts. -/
theorem calls_said2 {P : Program} {f : FuncId} {fn : Func} {c : Code} {n m fuel : Nat} {say : Says} {args : List Value} {q : List (Value × Bool)} {g1 g2 : FuncId} {u1 u2 : List Value → AH → Option (Res × AH)} (hP : noGoroutines P = true) (hm : P.follows .mixedOrders = true) (hf : P.funcs[f]? = some fn) (hb : fn.body = some c)
    (h1 : ∀ args h res h', u1 args h = some (res, h') → Holds P g1 args h res h') (h2 : ∀ args h res h', u2 args h = some (res, h') → Holds P g2 args h res h')
    (he : tests P fn.results.toList (acodeX P (FT.upd (FT.upd (afun P (adraw P false) (fun _ => false) fuel n) g1 u1) g2 u2) (adraw P false (FT.upd (FT.upd (afun P (adraw P false) (fun _ => false) fuel n) g1 u1) g2 u2)) false say m c ⟨args ++ List.replicate (fn.ntmps - args.length) undef, [], []⟩) = some q) (hq : Said q)
    {args' : Array Value} (ha : VL (fun _ => none) args args'.toList) (w : World) :
    Calls P f args' w fun e w' => e = .returned (.bool true) ∧ Below w.heap.size w w' :=
  calls_said hP hm hf hb (FOk.upd (FOk.upd (afun_ok hP (fun F hF => adraw_ok hm hF) n) h1) h2) he hq ha w

end Go.Eng
