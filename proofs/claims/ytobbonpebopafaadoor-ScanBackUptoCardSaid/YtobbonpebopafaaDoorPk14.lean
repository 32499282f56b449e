import Derived.Test.YtobbonpebopafaaDoorPk13
import Derived.Test.YtobbonpebopafaaDoorPk7
import Derived.Sort.Grow
import Derived.Deep.Draws
import Derived.Lib.LaidTab
import Derived.Lib.ItoaNum
/- The engine, part 39: rows of numbers and of structs of numbers; what is said of them in contracts. -/
set_option linter.unusedVariables false
set_option linter.unusedSimpArgs false
namespace Go.Eng

abbrev iv (n : Int) : Value := .int .i64 n

theorem i64w {x : Int} (h0 : -9223372036854775808 ≤ x) (h1 : x ≤ 9223372036854775807) : IntKind.i64.wrap x = x := by
  show (if (true && decide (x % (18446744073709551616 : Int) ≥ (9223372036854775808 : Int))) = true then x % (18446744073709551616 : Int) - (18446744073709551616 : Int) else x % (18446744073709551616 : Int)) = x
  by_cases h : 0 ≤ x
  · have : x % (18446744073709551616 : Int) = x := Int.emod_eq_of_lt h (by omega)
    rw [this, if_neg (by simp; omega)]
  · have : x % (18446744073709551616 : Int) = x + 18446744073709551616 := by omega
    rw [this, if_pos (by simp; omega)]; omega
theorem u8w {x : Int} (h0 : 0 ≤ x) (h1 : x ≤ 255) : IntKind.u8.wrap x = x := by
  show (if (false && decide (x % (256 : Int) ≥ (128 : Int))) = true then x % (256 : Int) - (256 : Int) else x % (256 : Int)) = x
  rw [if_neg (by simp)]; omega

theorem row_shape {h : AH} {sz n : Nat} {v : Value} {cs : List Value} (hr : Rds h sz v n cs) : ∃ a c, v = .slice a n c := by
  cases hr with
  | nil => exact ⟨_, _, rfl⟩
  | emp => exact ⟨_, _, rfl⟩
  | mk => exact ⟨_, _, rfl⟩

theorem ct1 {a b : Nat} : [a].contains b = decide (b = a) := by simp [List.contains_cons]

/-- Numbers as cells. -/
def ns (xs : List Int) : List Value := xs.map iv
theorem ows_open {h : AH} {e n : Nat} {v : Value} {cs : List Value} (ho : Ows h e 1 v n cs) (hn : 0 < n) : ∃ b c all, v = .slice (some ⟨b, 0, none⟩) n c ∧ Own h b e all ∧ all.length = c ∧ n ≤ c ∧ all.take n = cs := by
  cases ho with
  | nil => omega
  | @mk b n c all cs h1 h2 h3 h4 => exact ⟨b, c, all, rfl, h1, by rw [h2, Nat.mul_one], by omega, by simpa using h4⟩

/-- One more, of some cells, laid behind a row of one's own. -/
theorem app1 {h : AH} {e n sz bytes : Nat} {v : Value} {xs cs : List Value} (ho : Ows h e sz v n cs) (hl : xs.length = sz) (hx : xs.all Value.oneCell' = true) (hb : (n + 1) * bytes ≤ 140737488355328) (hb2 : n + 1 ≤ 9223372036854775807) :
    ∃ s' h', appv false (h ++ [row e h.length xs]) false e sz bytes v (.slice (some ⟨h.length, 0, none⟩) 1 1) = some (s', h') ∧ Ows h' e sz s' (n + 1) (cs ++ xs) ∧ Keep (bk v) h h' ∧ (∀ q, bk s' q → bk v q ∨ h.length ≤ q) := by
  have k0 : Keep (fun _ => False) h (h ++ [row e h.length xs]) := Keep.push _ _ _
  have hr : Rds (h ++ [row e h.length xs]) sz (.slice (some ⟨h.length, 0, none⟩) 1 1) 1 xs := .mk (Own.new h e _ xs).cells (by simp [hl]) (by simp [← hl])
  obtain ⟨_, hsrc, rfl⟩ := hr.src hx
  obtain ⟨s', h', k1, k2, k3, k4⟩ := (ho.keep k0 (fun _ _ e => e)).app (bytes := bytes) hsrc (by simp [hl]) hx hb hb2
  exact ⟨s', h', k1, k2, (k0.mono (fun _ e => e.elim)).trans k3, fun q hq => (k4 q hq).imp id (fun e => by simp at e; omega)⟩

end Go.Eng

/- The engine, part 40: maps of numbers. -/
set_option linter.unusedVariables false
set_option linter.unusedSimpArgs false
namespace Go.Eng

/-- A map's entries. -/
def mp (l : List (Int × Int)) : List (Value × Value) := l.map fun p => (iv p.1, iv p.2)
section
variable {P : Program} {kt : TypeId}
/-- A map of one's own. -/
def MOwn (h : AH) (b : Nat) (l : List (Int × Int)) : Prop := h[b]? = some (.map (mp l))
theorem MOwn.lt {h : AH} {b : Nat} {l : List (Int × Int)} (m : MOwn h b l) : b < h.length := (List.getElem?_eq_some_iff.1 m).1
theorem MOwn.keep {S : Nat → Prop} {h h' : AH} {b : Nat} {l : List (Int × Int)} (m : MOwn h b l) (k : Keep S h h') (hs : ¬ S b) : MOwn h' b l := k.get m hs
theorem MOwn.new (h : AH) : MOwn (h ++ [.map []]) h.length [] := by simp [MOwn, mp]

end
end Go.Eng

/- The engine, part 41: what arguments hold. -/
set_option linter.unusedVariables false
set_option linter.unusedSimpArgs false
namespace Go.Eng

section
variable {P : Program} {H : Type} {h : AH}

/-- An int's range. -/
def rng (n : Int) : Prop := -9223372036854775808 ≤ n ∧ n ≤ 9223372036854775807

theorem rdI {t : TypeId} {cs : List Value} {d : DataW H} (hu : P.underlying t = some (.int .i64)) (hr : Rd' P h t cs d) : ∃ n, cs = [iv n] ∧ rng n := by
  cases hr with
  | bool h' => rw [hu] at h'; cases h'
  | int h' n hw =>
    rw [hu] at h'; cases h'
    refine ⟨n, rfl, ?_⟩
    simpa [Lit.wf, IntKind.min, IntKind.max, IntKind.signed, IntKind.bits, rng] using hw
  | str h' => rw [hu] at h'; cases h'
  | snil h' => rw [hu] at h'; cases h'
  | sempty h' => rw [hu] at h'; cases h'
  | slice h' => rw [hu] at h'; cases h'
  | struct h' => rw [hu] at h'; cases h'
  | array h' => rw [hu] at h'; cases h'

theorem rdS {t : TypeId} {cs : List Value} {d : DataW H} (B : Bulk H) (hu : P.underlying t = some .string) (hr : Rd' P h t cs d) : ∃ s : ByteArray, cs = [.string s] ∧ s.size ≤ B.f d := by
  cases hr with
  | bool h' => rw [hu] at h'; cases h'
  | int h' => rw [hu] at h'; cases h'
  | str h' s hs => exact ⟨s, rfl, by rw [B.str]; simp⟩
  | snil h' => rw [hu] at h'; cases h'
  | sempty h' => rw [hu] at h'; cases h'
  | slice h' => rw [hu] at h'; cases h'
  | struct h' => rw [hu] at h'; cases h'
  | array h' => rw [hu] at h'; cases h'

theorem flat_of {α : Type} {f : α → List Value} {Q : α → Prop} : ∀ (css : List (List Value)), (∀ cs ∈ css, ∃ x, cs = f x ∧ Q x) → ∃ xs : List α, css.flatten = xs.flatMap f ∧ xs.length = css.length ∧ ∀ x ∈ xs, Q x := by
  intro css
  induction css with
  | nil => intro _; exact ⟨[], rfl, rfl, fun x hx => by cases hx⟩
  | cons cs css ih =>
    intro h
    obtain ⟨x, rfl, hx⟩ := h cs List.mem_cons_self
    obtain ⟨xs, h1, h2, h3⟩ := ih fun c hc => h c (List.mem_cons_of_mem _ hc)
    exact ⟨x :: xs, by simp [h1], by simp [h2], fun y hy => (List.mem_cons.1 hy).elim (fun e => e ▸ hx) (h3 y)⟩
theorem flat_len {α : Type} {f : α → List Value} {k : Nat} (hf : ∀ x, (f x).length = k) (xs : List α) : (xs.flatMap f).length = xs.length * k := by
  induction xs with
  | nil => simp
  | cons x xs ih => rw [List.flatMap_cons, List.length_append, ih, hf, List.length_cons, Nat.add_mul]; omega

/-- A row, by what each element is. -/
theorem rdRow {α : Type} {f : α → List Value} {Q : α → Prop} {k N : Nat} (B : Bulk H) {t e : TypeId} {v : Value} {d : DataW H} (hu : P.underlying t = some (.slice e)) (hf : ∀ x, (f x).length = k)
    (el : ∀ (cs : List Value) (d' : DataW H), Rd' P h e cs d' → B.f d' ≤ N → ∃ x, cs = f x ∧ Q x) (hr : Rd' P h t [v] d) (hB : B.f d ≤ N) :
    ∃ xs : List α, Rds h k v xs.length (xs.flatMap f) ∧ (∀ x ∈ xs, Q x) ∧ xs.length ≤ N := by
  generalize hc : [v] = cs at hr
  cases hr with
  | bool hu' => rw [hu] at hu'; cases hu'
  | int hu' => rw [hu] at hu'; cases hu'
  | str hu' => rw [hu] at hu'; cases hu'
  | snil hu' => cases hc; exact ⟨[], .nil, (fun x hx => nomatch hx), Nat.zero_le _⟩
  | sempty hu' => cases hc; exact ⟨[], .emp, (fun x hx => nomatch hx), Nat.zero_le _⟩
  | slice hu' hcell hel hn hd hm hsz each =>
    rename_i e' b n css ds rest
    cases hc
    rw [hu] at hu'; cases hu'
    obtain ⟨xs, h1, h2, h3⟩ := flat_of (f := f) (Q := Q) css (fun cs hcs => by
      obtain ⟨i, hi, e⟩ := List.getElem_of_mem hcs
      have hid : i < ds.length := by omega
      exact el cs ds[i] (each i cs ds[i] (by rw [List.getElem?_eq_getElem hi, e]) (List.getElem?_eq_getElem hid)) (Nat.le_trans (B.elem (List.getElem?_eq_getElem hid)) hB))
    have hxn : xs.length = n := by omega
    refine ⟨xs, ?_, h3, by have := B.slen ds rest; omega⟩
    rw [hxn]
    have hl := flat_len hf xs
    refine .mk hcell ?_ ?_
    · rw [h1, hl, hxn]; omega
    · rw [h1, List.drop_zero, List.take_of_length_le (by rw [hl, hxn]; omega)]
  | struct hu' => rw [hu] at hu'; cases hu'
  | array hu' => rw [hu] at hu'; cases hu'

/-- A struct, by its fields' types and offsets. -/
theorem rdT {t : TypeId} {fs : Array Field} {l : List (Nat × Nat)} {cs : List Value} {d : DataW H} (B : Bulk H) (hu : P.underlying t = some (.struct fs)) (hl : (fs.map fun f => (f.type, f.offset)).toList = l) (hr : Rd' P h t cs d) :
    cs.length = P.cellsOf t ∧ ∀ (i : Nat) (ty off : Nat), l[i]? = some (ty, off) → ∃ d', Rd' P h ty ((cs.drop off).take (P.cellsOf ty)) d' ∧ B.f d' ≤ B.f d := by
  cases hr with
  | bool h' => rw [hu] at h'; cases h'
  | int h' => rw [hu] at h'; cases h'
  | str h' => rw [hu] at h'; cases h'
  | snil h' => rw [hu] at h'; cases h'
  | sempty h' => rw [hu] at h'; cases h'
  | slice h' => rw [hu] at h'; cases h'
  | array h' => rw [hu] at h'; cases h'
  | struct h' hlen hd each =>
    rename_i fs' ds
    rw [hu] at h'; cases h'
    refine ⟨hlen, fun i ty off hi => ?_⟩
    subst hl
    rw [Array.toList_map, List.getElem?_map] at hi
    obtain ⟨f, h1, h2⟩ := Option.map_eq_some_iff.1 hi
    simp only [Prod.mk.injEq] at h2
    have h1' : fs[i]? = some f := by simpa using h1
    have hi' : i < fs.size := (Array.getElem?_eq_some_iff.1 h1').1
    have hid : i < ds.length := by omega
    have := each i f ds[i] h1' (List.getElem?_eq_getElem hid)
    rw [h2.1, h2.2] at this
    exact ⟨ds[i], this, B.field (List.getElem?_eq_getElem hid)⟩

/-- Some cells of an element. -/
theorem rds_sub {sz n : Nat} {v : Value} {cs : List Value} (hr : Rds h sz v n cs) {i j m : Nat} (hi : i < n) (hj : j + m ≤ sz) : ∃ b o c, v = .slice (some ⟨b, o, none⟩) n c ∧ ldcs h b (o + i * sz + j) m = some ((cs.drop (i * sz + j)).take m) := by
  cases hr with
  | nil => omega
  | emp => omega
  | @mk b o n c all cs hb hl hx =>
    have e : i * sz + sz ≤ n * sz := by
      have := Nat.mul_le_mul_right sz (show i + 1 ≤ n by omega)
      rw [Nat.add_mul, Nat.one_mul] at this; exact this
    refine ⟨b, o, c, rfl, ?_⟩
    rw [hb.lds (o + i * sz + j) m (by omega), ← hx, List.drop_take, List.drop_drop, List.take_take, Nat.add_assoc, Nat.min_eq_left (by omega)]
theorem flat_at {α : Type} {f : α → List Value} {k : Nat} (hf : ∀ x, (f x).length = k) : ∀ {xs : List α} {i : Nat} {x : α}, xs[i]? = some x → ∀ {j m : Nat}, j + m ≤ k → ((xs.flatMap f).drop (i * k + j)).take m = ((f x).drop j).take m := by
  intro xs
  induction xs with
  | nil => intro i x h; simp at h
  | cons y xs ih =>
    intro i x h j m hj
    rw [List.flatMap_cons]
    cases i with
    | zero =>
      simp at h; subst h
      rw [Nat.zero_mul, Nat.zero_add, List.drop_append_of_le_length (by rw [hf]; omega), List.take_append_of_le_length (by rw [List.length_drop, hf]; omega)]
    | succ i =>
      have := ih (i := i) (by simpa using h) hj
      rw [← this, show (i + 1) * k + j = (f y).length + (i * k + j) by rw [hf, Nat.add_mul]; omega, ← List.drop_drop, List.drop_left]
end
end Go.Eng

/- The engine, part 42: a run in which some tests are said ahead: what they come to is shown by hand. -/
set_option linter.unusedVariables false
set_option linter.unusedSimpArgs false
namespace Go.Eng
open Go.RowKit

/-- What is said of tests: by the place of their result. -/
abbrev Says := Nat → Option Bool
/-- All tests came to what was said. -/
def Said (q : List (Value × Bool)) : Prop := ∀ p, p ∈ q → p.1 = .bool p.2
theorem Said.l {q q' : List (Value × Bool)} (h : Said (q ++ q')) : Said q := fun p hp => h p (List.mem_append_left _ hp)
theorem Said.r {q q' : List (Value × Bool)} (h : Said (q ++ q')) : Said q' := fun p hp => h p (List.mem_append_right _ hp)

/-- A run that returns true, if its tests came to what was said: the tests. -/
def tests (P : Program) (rs : List ResultVar) : Option (Out × St × List (Value × Bool)) → Option (List (Value × Bool))
  | some (.ret, ⟨env, h, []⟩, q) => match ares P env h rs with
    | some [.bool true] => some q
    | _ => none
  | _ => none
end Go.Eng

/- The engine, part 43: functions without a body. -/
set_option linter.unusedVariables false
set_option linter.unusedSimpArgs false
namespace Go.Eng

theorem Gets.extRun {P : Program} {f : FuncId} {fn : Func} {e : Array Value → Sem Value} (hf : P.funcs[f]? = some fn) (hname : (fn.name == "runtime.NumGoroutine") = false) (hb : fn.body.isNone = true)
    (hn : Extern.findNext fn = none) (he : Extern.find fn = some e) {args : List Value} {v : Value} (hs : args.all (scal 8) = true) (hv : scal 8 v = true) (hrun : ∀ w, (e args.toArray).run P w = .ok v w) (h : AH) {Φ : Res → AH → Prop} (hΦ : Φ (.ret v) h) : Gets P f args h Φ :=
  ⟨.ret v, h, fun r w args' hr ha o a K Q hK hQ => by
    rw [all_scal_eq hs ha, run_callFunc_extern hf hname hb hn he, hrun]
    exact hK _ _ _ r rfl (Stp.refl hr) (scal_refl 8 v hv), Nat.le_refl _, hΦ⟩

theorem Gets.extB {P : Program} {f : FuncId} {args : List Value} {h h' : AH} {res : Res} {Φ : Res → AH → Prop} (he : aextB P f args h = some (res, h')) (hl : h.length ≤ h'.length) (hΦ : Φ res h') : Gets P f args h Φ := ⟨res, h', Holds.extB he, hl, hΦ⟩

end Go.Eng

/- The engine, part 44: contracts that are proved elsewhere. -/
set_option linter.unusedVariables false
set_option linter.unusedSimpArgs false
namespace Go.Eng
open Go.RowKit

theorem below_grow {w : World} {k : Nat} {os : Array Obj} : Below w.heap.size w (Sort.grow (w.drewN k) os) :=
  ⟨rfl, rfl, rfl, by show w.heap.size ≤ (w.heap ++ os).size; simp, fun i hi => by
    show (w.heap ++ os)[i]? = w.heap[i]?
    rw [Array.getElem?_append_left hi]⟩

/-- A contract of plain arguments that lays new blocks alone. -/
theorem Holds.ofCalls {P : Program} {f : FuncId} {fn : Func} {c : Code} (hP : noGoroutines P = true) (hf : P.funcs[f]? = some fn) (hb : fn.body = some c) {args : List Value} {v : Value} (ha : args.all (scal 8) = true) (hv : scal 8 v = true)
    (hc : ∀ W : World, TabOk P W.heap → Calls P f args.toArray W fun e W' => e = .returned v ∧ Below W.heap.size W W') (h : AH) : Holds P f args h (.ret v) h := by
  intro r w args' hr hargs o a K Q hK hQ
  have hargs' : args' = args.toArray := all_scal_eq ha hargs
  subst hargs'
  rw [run_callFunc hP hf hb]
  refine Calls.mono (hc w hr.lay) fun e w' ⟨he, hb⟩ => ?_
  subst he
  refine hK v v w' r rfl ⟨.refl r, ⟨fun b x e => ?_, fun b B e hl => ?_, hr.sep, fun g cs hg => ?_, hr.nwr⟩, ⟨hb.os, hb.tape, hb.output, hb.size, fun k hk _ => hb.block k hk⟩, fun b B x e hl hx _ => ⟨b, B, x, e, hl, hx, rfl, id⟩, Nat.le_refl _, fun _ h => h⟩ (scal_refl 8 v hv)
  · have := hr.dom b x e
    exact ⟨this.1, Nat.lt_of_lt_of_le this.2 hb.size⟩
  · obtain ⟨x, e1, e2⟩ := hr.blk b B e hl
    exact ⟨x, e1, by rw [hb.block _ (hr.dom b x e1).2]; exact e2⟩
  · obtain ⟨cur, e, fr, hc, hv⟩ := hr.lay g cs hg
    exact ⟨cur, e, fr, by rw [hb.block g (Array.getElem?_eq_some_iff.1 hc).1]; exact hc, hv⟩
theorem Gets.ofCalls {P : Program} {f : FuncId} {fn : Func} {c : Code} (hP : noGoroutines P = true) (hf : P.funcs[f]? = some fn) (hb : fn.body = some c) {args : List Value} {v : Value} (ha : args.all (scal 8) = true) (hv : scal 8 v = true)
    (hc : ∀ W : World, TabOk P W.heap → Calls P f args.toArray W fun e W' => e = .returned v ∧ Below W.heap.size W W') (h : AH) : Gets P f args h (fun res h' => h' = h ∧ res = .ret v) :=
  ⟨_, _, Holds.ofCalls hP hf hb ha hv hc h, Nat.le_refl _, rfl, rfl⟩

/-- The table of powers of ten. -/
theorem tab_pow {P : Program} {W : World} (hT : TabOk P W.heap) {g : Nat} (hg : P.globalNamed "internal/strconv.uint64pow10" = some g) (ht : Tab P g = some ((List.range 20).map fun i => Value.int .u64 (10 ^ i))) :
    Lib.TabIs P W "internal/strconv.uint64pow10" .u64 Lib.pow10Tab := by
  obtain ⟨cur, e, fr, hc, hv⟩ := hT g _ ht
  have hcur : cur.toList = (List.range 20).map fun i => Value.int .u64 (10 ^ i) := by
    apply List.ext_getElem?
    intro i
    have hl := hv.1
    by_cases hi : i < 20
    · have h1 : ((List.range 20).map fun i => Value.int .u64 (10 ^ i))[i]? = some (.int .u64 (10 ^ i)) := by rw [List.getElem?_map, List.getElem?_range hi]; rfl
      have hi2 : i < cur.toList.length := by rw [← hl]; simpa using hi
      have h2 := hv.2 i _ _ h1 (List.getElem?_eq_getElem hi2)
      rw [h1, List.getElem?_eq_getElem hi2, VR.int_inv h2]
    · rw [List.getElem?_eq_none (by rw [← hl]; simp; omega), List.getElem?_eq_none (by simp; omega)]
  unfold Lib.TabIs World.var?
  rw [hg, Option.bind_some, hc]
  simp only [Option.some.injEq]
  apply Array.toList_inj.1
  rw [hcur]
  simp [Lib.pow10Tab, Function.comp_def]
end Go.Eng

/- The engine, part 45: a region that draws its order, by what holds between its operations. -/
set_option linter.unusedVariables false
set_option linter.unusedSimpArgs false
namespace Go.Eng

/-- What holds of every set of operations that are done, whatever the order, holds at the end. -/
theorem any_inv {P : Program} {ops : Array Oper} {Q : Exit → Act → World → Prop} (Inv : (Nat → Bool) → Act → World → Prop) (hord : ∀ i o, ops[i]? = some o → ∀ e ∈ o.after, Region.binds .any e = true → e.on < i)
    (hstep : ∀ L a w i o, Inv L a w → ops[i]? = some o → L i = false → (∀ e ∈ o.after, Region.binds .any e = true → L e.on = true) → wpOp P ops Q i (fun a' w' => Inv (put1 L i) a' w') a w)
    (hdone : ∀ L a w, Inv L a w → (∀ i, i < ops.size → L i = true) → Q .normal a w) :
    ∀ (fuel : Nat) (listed : Array Bool) (a : Act) (w : World), listed.size = ops.size → left listed ≤ fuel → Inv (fun k => listed.getD k false) a w → wpAny P .any ops Q fuel listed a w := by
  have fin_all : ∀ (listed : Array Bool) (a : Act) (w : World), listed.size = ops.size → Region.ready .any ops listed = [] → Inv (fun k => listed.getD k false) a w → Q .normal a w := by
    intro listed a w hsz hready hI
    refine hdone _ a w hI ?_
    intro i
    induction i using Nat.strongRecOn with
    | _ i ih =>
      intro hi
      by_cases hl : listed.getD i false = true
      · exact hl
      · exfalso
        have hmem : i ∈ Region.ready .any ops listed := by
          rw [mem_ready]
          refine ⟨?_, ops[i], by simp [hi], fun e hem hb => ?_⟩
          · have hi' : i < listed.size := by omega
            simp [hi'] at hl ⊢; exact hl
          · have := hord i ops[i] (by simp [hi]) e hem hb
            exact ih e.on this (by omega)
        rw [hready] at hmem
        cases hmem
  intro fuel
  induction fuel with
  | zero =>
    intro listed a w hsz hleft hI
    have hready : Region.ready .any ops listed = [] := by
      cases hr : Region.ready .any ops listed with
      | nil => rfl
      | cons i rest =>
        exfalso
        have hmem : i ∈ Region.ready .any ops listed := by rw [hr]; simp
        rw [mem_ready] at hmem
        obtain ⟨h1, o, h2, _⟩ := hmem
        have hi : i < listed.size := by rw [hsz]; exact (Array.getElem?_eq_some_iff.1 h2).1
        have := left_set hi h1
        omega
    exact ⟨hready, fin_all listed a w hsz hready hI⟩
  | succ fuel ih =>
    intro listed a w hsz hleft hI
    refine ⟨fun hready => fin_all listed a w hsz hready hI, fun i hi => ?_⟩
    rw [mem_ready] at hi
    obtain ⟨h1, o, h2, h3⟩ := hi
    have hil : i < listed.size := by rw [hsz]; exact (Array.getElem?_eq_some_iff.1 h2).1
    have hLi : listed.getD i false = false := by simp [hil] at h1 ⊢; exact h1
    refine wpOp_mono (fun a' w' hI' => ih _ a' w' (by simp [hsz]) (by have := left_set hil h1; omega) ?_) (hstep _ a w i o hI h2 hLi h3)
    have hput : (fun k => (listed.setIfInBounds i true).getD k false) = put1 (fun k => listed.getD k false) i := by
      funext k
      unfold put1
      by_cases e : i = k
      · subst e; simp [hil]
      · rw [getD_set_ne false e]
        have : (k == i) = false := by simp; exact fun h => e h.symm
        simp [this]
    rw [hput]; exact hI'
end Go.Eng
