import Derived.Test.YtijanegfgaphoaaGreatDoorPk13
import Derived.Test.YtijanegfgaphoaaGreatDoorPk7
import Derived.Sort.Grow
import Derived.Deep.Draws
import Derived.Lib.LaidTab
import Derived.Lib.ItoaNum
import Derived.Test.YtijanegfgaphoaaGreatDoorPk9
import Derived.Lib.IndexMore
set_option linter.unusedVariables false
set_option linter.unusedSimpArgs false
namespace Go.Eng
abbrev iv (n : Int) : Value := .int .i64 n
theorem i64w {x : Int} (h0 : -9223372036854775808 <= x) (h1 : x <= 9223372036854775807) : IntKind.i64.wrap x = x := by
  show (if (true && decide (x % (18446744073709551616 : Int) ≥ (9223372036854775808 : Int))) = true then x % (18446744073709551616 : Int) - (18446744073709551616 : Int) else x % (18446744073709551616 : Int)) = x
  by_cases h : 0 <= x
  · have : x % (18446744073709551616 : Int) = x := Int.emod_eq_of_lt h (by omega)
    rw [this, if_neg (by simp; omega)]
  · have : x % (18446744073709551616 : Int) = x + 18446744073709551616 := by omega
    rw [this, if_pos (by simp; omega)]; omega
theorem u8w {x : Int} (h0 : 0 <= x) (h1 : x <= 255) : IntKind.u8.wrap x = x := by
  show (if (false && decide (x % (256 : Int) ≥ (128 : Int))) = true then x % (256 : Int) - (256 : Int) else x % (256 : Int)) = x
  rw [if_neg (by simp)]; omega
theorem row_shape {h : AH} {sz n : Nat} {v : Value} {cs : List Value} (hr : Rds h sz v n cs) : ∃ a c, v = .slice a n c := by
  cases hr with
  | nil => exact ⟨_, _, rfl⟩
  | emp => exact ⟨_, _, rfl⟩
  | mk => exact ⟨_, _, rfl⟩
theorem ct1 {a b : Nat} : [a].contains b = decide (b = a) := by simp [List.contains_cons]
def ns (xs : List Int) : List Value := xs.map iv
theorem ns_len (xs : List Int) : (ns xs).length = xs.length := by simp [ns]
theorem ns_get (xs : List Int) (i : Nat) : (ns xs)[i]? = (xs[i]?).map iv := by simp [ns]
theorem ns_one (xs : List Int) : (ns xs).all Value.oneCell' = true := by simp [ns, Value.oneCell']
theorem ns_app (a b : List Int) : ns (a ++ b) = ns a ++ ns b := by simp [ns]
theorem rds_ix {h : AH} {v : Value} {n : Nat} {xs : List Int} (hr : Rds h 1 v n (ns xs)) {i : Int} (h0 : 0 <= i) {x : Int} (hx : xs[i.toNat]? = some x) :
    ∃ b o c, v = .slice (some ⟨b, o, none⟩) n c /\ i < n /\ ldc h b (o + i.toNat) = some (iv x) := by
  have hlen := hr.len
  rw [ns_len, Nat.mul_one] at hlen
  have hl : i.toNat < xs.length := (List.getElem?_eq_some_iff.1 hx).1
  obtain ⟨b, o, c, e, k⟩ := hr.at (i := i.toNat) (by omega)
  refine ⟨b, o, c, e, by omega, ?_⟩
  have := k 0 (by omega)
  rw [Nat.mul_one, Nat.add_zero, Nat.add_zero] at this
  rw [this, ns_get, hx]; rfl
theorem ows_open {h : AH} {e n : Nat} {v : Value} {cs : List Value} (ho : Ows h e 1 v n cs) (hn : 0 < n) : ∃ b c all, v = .slice (some ⟨b, 0, none⟩) n c /\ Own h b e all /\ all.length = c /\ n <= c /\ all.take n = cs := by
  cases ho with
  | nil => omega
  | @mk b n c all cs h1 h2 h3 h4 => exact ⟨b, c, all, rfl, h1, by rw [h2, Nat.mul_one], by omega, by simpa using h4⟩
theorem app1 {h : AH} {e n sz bytes : Nat} {v : Value} {xs cs : List Value} (ho : Ows h e sz v n cs) (hl : xs.length = sz) (hx : xs.all Value.oneCell' = true) (hb : (n + 1) * bytes <= 140737488355328) (hb2 : n + 1 <= 9223372036854775807) :
    ∃ s' h', appv false (h ++ [row e h.length xs]) false e sz bytes v (.slice (some ⟨h.length, 0, none⟩) 1 1) = some (s', h') /\ Ows h' e sz s' (n + 1) (cs ++ xs) /\ Keep (bk v) h h' /\ (∀ q, bk s' q -> bk v q \/ h.length <= q) := by
  have k0 : Keep (fun _ => False) h (h ++ [row e h.length xs]) := Keep.push _ _ _
  have hr : Rds (h ++ [row e h.length xs]) sz (.slice (some ⟨h.length, 0, none⟩) 1 1) 1 xs := .mk (Own.new h e _ xs).cells (by simp [hl]) (by simp [<- hl])
  obtain ⟨_, hsrc, rfl⟩ := hr.src hx
  obtain ⟨s', h', k1, k2, k3, k4⟩ := (ho.keep k0 (fun _ _ e => e)).app (bytes := bytes) hsrc (by simp [hl]) hx hb hb2
  exact ⟨s', h', k1, k2, (k0.mono (fun _ e => e.elim)).trans k3, fun q hq => (k4 q hq).imp id (fun e => by simp at e; omega)⟩
def rowsOf {α : Type} (f : α -> List Int) (l : List α) : List Value := l.flatMap fun x => ns (f x)
theorem rowsOf_len {α : Type} {f : α -> List Int} {k : Nat} (hk : ∀ x, (f x).length = k) (l : List α) : (rowsOf f l).length = l.length * k := by
  induction l with
  | nil => simp [rowsOf]
  | cons x l ih =>
    have : rowsOf f (x :: l) = ns (f x) ++ rowsOf f l := by simp [rowsOf]
    rw [this, List.length_append, ih, ns_len, hk, List.length_cons, Nat.add_mul]; omega
theorem rowsOf_get {α : Type} {f : α -> List Int} {k : Nat} (hk : ∀ x, (f x).length = k) : ∀ (l : List α) (i j : Nat), j < k -> (rowsOf f l)[i * k + j]? = (l[i]?).bind fun x => ((f x)[j]?).map iv := by
  intro l
  induction l with
  | nil => intro i j hj; simp [rowsOf]
  | cons x l ih =>
    intro i j hj
    have e : rowsOf f (x :: l) = ns (f x) ++ rowsOf f l := by simp [rowsOf]
    rw [e]
    cases i with
    | zero => rw [Nat.zero_mul, Nat.zero_add, List.getElem?_append_left (by rw [ns_len, hk]; exact hj), ns_get]; simp
    | succ i =>
      rw [List.getElem?_append_right (by rw [ns_len, hk, Nat.add_mul]; omega), ns_len, hk]
      rw [show (i + 1) * k + j - k = i * k + j by rw [Nat.add_mul]; omega, ih i j hj]
      simp
theorem rowsOf_app {α : Type} {f : α -> List Int} (a b : List α) : rowsOf f (a ++ b) = rowsOf f a ++ rowsOf f b := by simp [rowsOf]
theorem rds_fld {α : Type} {f : α -> List Int} {k : Nat} (h0 : 0 < k) (hk : ∀ x, (f x).length = k) {h : AH} {v : Value} {n : Nat} {xs : List α} (hr : Rds h k v n (rowsOf f xs)) {i : Nat} {x : α} (hx : xs[i]? = some x) :
    ∃ b o c, v = .slice (some ⟨b, o, none⟩) n c /\ i < n /\ ∀ j, j < k -> ldc h b (o + i * k + j) = ((f x)[j]?).map iv := by
  have hl : i < xs.length := (List.getElem?_eq_some_iff.1 hx).1
  have hn : i < n := by
    have := hr.len
    rw [rowsOf_len hk] at this
    exact Nat.lt_of_lt_of_le hl (Nat.le_of_mul_le_mul_right (Nat.le_of_eq this) h0)
  obtain ⟨b, o, c, e, kk⟩ := hr.at (i := i) hn
  refine ⟨b, o, c, e, hn, fun j hj => ?_⟩
  rw [kk j hj, rowsOf_get hk xs i j hj, hx]; rfl
theorem rds_str {α : Type} {f : α -> List Int} {k : Nat} (h0 : 0 < k) (hk : ∀ x, (f x).length = k) {h : AH} {v : Value} {n : Nat} {xs : List α} (hr : Rds h k v n (rowsOf f xs)) {i : Nat} {x : α} (hx : xs[i]? = some x) :
    ∃ b o c, v = .slice (some ⟨b, o, none⟩) n c /\ i < n /\ ldcs h b (o + i * k) k = some (ns (f x)) := by
  obtain ⟨b, o, c, e, hn, hj⟩ := rds_fld h0 hk hr hx
  refine ⟨b, o, c, e, hn, ?_⟩
  subst e
  generalize hcs : rowsOf f xs = cs at hr
  cases hr with
  | emp => omega
  | mk hb hl hc =>
    have hle : i * k + k <= n * k := by
      have := Nat.mul_le_mul_right k (show i + 1 <= n by omega)
      rwa [Nat.add_mul, Nat.one_mul] at this
    rw [hb.lds _ _ (by omega)]
    congr 1
    apply List.ext_getElem?
    intro j
    by_cases hjk : j < k
    · rw [List.getElem?_take, if_pos hjk, List.getElem?_drop, ns_get, <- hj j hjk, hb.ld]
    · rw [List.getElem?_eq_none (by simp; omega), List.getElem?_eq_none (by rw [ns_len, hk]; omega)]
end Go.Eng

namespace Go.Eng
def mp (l : List (Int × Int)) : List (Value × Value) := l.map fun p => (iv p.1, iv p.2)
section
variable {P : Program} {kt : TypeId}
end
end Go.Eng

namespace Go.Eng
section
variable {P : Program} {H : Type} {h : AH}
def rng (n : Int) : Prop := -9223372036854775808 <= n /\ n <= 9223372036854775807
theorem rdI {t : TypeId} {cs : List Value} {d : DataW H} (hu : P.underlying t = some (.int .i64)) (hr : Rd' P h t cs d) : ∃ n, cs = [iv n] /\ rng n := by
  cases hr with
  | bool h' => rw [hu] at h'; cases h'
  | int h' n hw =>
    rw [hu] at h'; cases h'
    refine ⟨n, rfl, ?_⟩
    simpa [Lit.wf, IntKind.min, IntKind.max, IntKind.signed, IntKind.bits, rng] using hw
  | str h' => rw [hu] at h'; cases h'
  | snil h' => rw [hu] at h'; cases h'
  | sempty h' => rw [hu] at h'; cases h'
  | slice h' => rw [hu] at h'; cases h'
  | struct h' => rw [hu] at h'; cases h'
  | array h' => rw [hu] at h'; cases h'
theorem flat_of {α : Type} {f : α -> List Value} {Q : α -> Prop} : ∀ (css : List (List Value)), (∀ cs ∈ css, ∃ x, cs = f x /\ Q x) -> ∃ xs : List α, css.flatten = xs.flatMap f /\ xs.length = css.length /\ ∀ x ∈ xs, Q x := by
  intro css
  induction css with
  | nil => intro _; exact ⟨[], rfl, rfl, fun x hx => by cases hx⟩
  | cons cs css ih =>
    intro h
    obtain ⟨x, rfl, hx⟩ := h cs List.mem_cons_self
    obtain ⟨xs, h1, h2, h3⟩ := ih fun c hc => h c (List.mem_cons_of_mem _ hc)
    exact ⟨x :: xs, by simp [h1], by simp [h2], fun y hy => (List.mem_cons.1 hy).elim (fun e => e ▸ hx) (h3 y)⟩
theorem flat_len {α : Type} {f : α -> List Value} {k : Nat} (hf : ∀ x, (f x).length = k) (xs : List α) : (xs.flatMap f).length = xs.length * k := by
  induction xs with
  | nil => simp
  | cons x xs ih => rw [List.flatMap_cons, List.length_append, ih, hf, List.length_cons, Nat.add_mul]; omega
theorem rdRow {α : Type} {f : α -> List Value} {Q : α -> Prop} {k N : Nat} (B : Bulk H) {t e : TypeId} {v : Value} {d : DataW H} (hu : P.underlying t = some (.slice e)) (hf : ∀ x, (f x).length = k)
    (el : ∀ (cs : List Value) (d' : DataW H), Rd' P h e cs d' -> B.f d' <= N -> ∃ x, cs = f x /\ Q x) (hr : Rd' P h t [v] d) (hB : B.f d <= N) :
    ∃ xs : List α, Rds h k v xs.length (xs.flatMap f) /\ (∀ x ∈ xs, Q x) /\ xs.length <= N := by
  generalize hc : [v] = cs at hr
  cases hr with
  | bool hu' => rw [hu] at hu'; cases hu'
  | int hu' => rw [hu] at hu'; cases hu'
  | str hu' => rw [hu] at hu'; cases hu'
  | snil hu' => cases hc; exact ⟨[], .nil, (fun x hx => nomatch hx), Nat.zero_le _⟩
  | sempty hu' => cases hc; exact ⟨[], .emp, (fun x hx => nomatch hx), Nat.zero_le _⟩
  | slice hu' hcell hel hn hd hm hsz each =>
    rename_i e' b n css ds rest
    cases hc
    rw [hu] at hu'; cases hu'
    obtain ⟨xs, h1, h2, h3⟩ := flat_of (f := f) (Q := Q) css (fun cs hcs => by
      obtain ⟨i, hi, e⟩ := List.getElem_of_mem hcs
      have hid : i < ds.length := by omega
      exact el cs ds[i] (each i cs ds[i] (by rw [List.getElem?_eq_getElem hi, e]) (List.getElem?_eq_getElem hid)) (Nat.le_trans (B.elem (List.getElem?_eq_getElem hid)) hB))
    have hxn : xs.length = n := by omega
    refine ⟨xs, ?_, h3, by have := B.slen ds rest; omega⟩
    rw [hxn]
    have hl := flat_len hf xs
    refine .mk hcell ?_ ?_
    · rw [h1, hl, hxn]; omega
    · rw [h1, List.drop_zero, List.take_of_length_le (by rw [hl, hxn]; omega)]
  | struct hu' => rw [hu] at hu'; cases hu'
  | array hu' => rw [hu] at hu'; cases hu'
theorem rdT {t : TypeId} {fs : Array Field} {l : List (Nat × Nat)} {cs : List Value} {d : DataW H} (B : Bulk H) (hu : P.underlying t = some (.struct fs)) (hl : (fs.map fun f => (f.type, f.offset)).toList = l) (hr : Rd' P h t cs d) :
    cs.length = P.cellsOf t /\ ∀ (i : Nat) (ty off : Nat), l[i]? = some (ty, off) -> ∃ d', Rd' P h ty ((cs.drop off).take (P.cellsOf ty)) d' /\ B.f d' <= B.f d := by
  cases hr with
  | bool h' => rw [hu] at h'; cases h'
  | int h' => rw [hu] at h'; cases h'
  | str h' => rw [hu] at h'; cases h'
  | snil h' => rw [hu] at h'; cases h'
  | sempty h' => rw [hu] at h'; cases h'
  | slice h' => rw [hu] at h'; cases h'
  | array h' => rw [hu] at h'; cases h'
  | struct h' hlen hd each =>
    rename_i fs' ds
    rw [hu] at h'; cases h'
    refine ⟨hlen, fun i ty off hi => ?_⟩
    subst hl
    rw [Array.toList_map, List.getElem?_map] at hi
    obtain ⟨f, h1, h2⟩ := Option.map_eq_some_iff.1 hi
    simp only [Prod.mk.injEq] at h2
    have h1' : fs[i]? = some f := by simpa using h1
    have hi' : i < fs.size := (Array.getElem?_eq_some_iff.1 h1').1
    have hid : i < ds.length := by omega
    have := each i f ds[i] h1' (List.getElem?_eq_getElem hid)
    rw [h2.1, h2.2] at this
    exact ⟨ds[i], this, B.field (List.getElem?_eq_getElem hid)⟩
end
end Go.Eng

namespace Go.Eng
open Go.RowKit
def tests (P : Program) (rs : List ResultVar) : Option (Out × St × List (Value × Bool)) -> Option (List (Value × Bool))
  | some (.ret, ⟨env, h, []⟩, q) => match ares P env h rs with
    | some [.bool true] => some q
    | _ => none
  | _ => none
end Go.Eng

namespace Go.Eng
theorem Gets.extB {P : Program} {f : FuncId} {args : List Value} {h h' : AH} {res : Res} {Φ : Res -> AH -> Prop} (he : aextB P f args h = some (res, h')) (hl : h.length <= h'.length) (hΦ : Φ res h') : Gets P f args h Φ := ⟨res, h', Holds.extB he, hl, hΦ⟩
end Go.Eng

namespace Go.Eng
open Go.RowKit
theorem below_grow {w : World} {k : Nat} {os : Array Obj} : Below w.heap.size w (Sort.grow (w.drewN k) os) :=
  ⟨rfl, rfl, rfl, by show w.heap.size <= (w.heap ++ os).size; simp, fun i hi => by
    show (w.heap ++ os)[i]? = w.heap[i]?
    rw [Array.getElem?_append_left hi]⟩
theorem Holds.ofCalls {P : Program} {f : FuncId} {fn : Func} {c : Code} (hP : noGoroutines P = true) (hf : P.funcs[f]? = some fn) (hb : fn.body = some c) {args : List Value} {v : Value} (ha : args.all (scal 8) = true) (hv : scal 8 v = true)
    (hc : ∀ W : World, TabOk P W.heap -> Calls P f args.toArray W fun e W' => e = .returned v /\ Below W.heap.size W W') (h : AH) : Holds P f args h (.ret v) h := by
  intro r w args' hr hargs o a K Q hK hQ
  have hargs' : args' = args.toArray := all_scal_eq ha hargs
  subst hargs'
  rw [run_callFunc hP hf hb]
  refine Calls.mono (hc w hr.lay) fun e w' ⟨he, hb⟩ => ?_
  subst he
  refine hK v v w' r rfl ⟨.refl r, ⟨fun b x e => ?_, fun b B e hl => ?_, hr.sep, fun g cs hg => ?_, hr.nwr⟩, ⟨hb.os, hb.tape, hb.output, hb.size, fun k hk _ => hb.block k hk⟩, fun b B x e hl hx _ => ⟨b, B, x, e, hl, hx, rfl, id⟩, Nat.le_refl _, fun _ h => h⟩ (scal_refl 8 v hv)
  · have := hr.dom b x e
    exact ⟨this.1, Nat.lt_of_lt_of_le this.2 hb.size⟩
  · obtain ⟨x, e1, e2⟩ := hr.blk b B e hl
    exact ⟨x, e1, by rw [hb.block _ (hr.dom b x e1).2]; exact e2⟩
  · obtain ⟨cur, e, fr, hc, hv⟩ := hr.lay g cs hg
    exact ⟨cur, e, fr, by rw [hb.block g (Array.getElem?_eq_some_iff.1 hc).1]; exact hc, hv⟩
theorem Gets.ofCalls {P : Program} {f : FuncId} {fn : Func} {c : Code} (hP : noGoroutines P = true) (hf : P.funcs[f]? = some fn) (hb : fn.body = some c) {args : List Value} {v : Value} (ha : args.all (scal 8) = true) (hv : scal 8 v = true)
    (hc : ∀ W : World, TabOk P W.heap -> Calls P f args.toArray W fun e W' => e = .returned v /\ Below W.heap.size W W') (h : AH) : Gets P f args h (fun res h' => h' = h /\ res = .ret v) :=
  ⟨_, _, Holds.ofCalls hP hf hb ha hv hc h, Nat.le_refl _, rfl, rfl⟩
theorem tab_pow {P : Program} {W : World} (hT : TabOk P W.heap) {g : Nat} (hg : P.globalNamed "internal/strconv.uint64pow10" = some g) (ht : Tab P g = some ((List.range 20).map fun i => Value.int .u64 (10 ^ i))) :
    Lib.TabIs P W "internal/strconv.uint64pow10" .u64 Lib.pow10Tab := by
  obtain ⟨cur, e, fr, hc, hv⟩ := hT g _ ht
  have hcur : cur.toList = (List.range 20).map fun i => Value.int .u64 (10 ^ i) := by
    apply List.ext_getElem?
    intro i
    have hl := hv.1
    by_cases hi : i < 20
    · have h1 : ((List.range 20).map fun i => Value.int .u64 (10 ^ i))[i]? = some (.int .u64 (10 ^ i)) := by rw [List.getElem?_map, List.getElem?_range hi]; rfl
      have hi2 : i < cur.toList.length := by rw [<- hl]; simpa using hi
      have h2 := hv.2 i _ _ h1 (List.getElem?_eq_getElem hi2)
      rw [h1, List.getElem?_eq_getElem hi2, VR.int_inv h2]
    · rw [List.getElem?_eq_none (by rw [<- hl]; simp; omega), List.getElem?_eq_none (by simp; omega)]
  unfold Lib.TabIs World.var?
  rw [hg, Option.bind_some, hc]
  simp only [Option.some.injEq]
  apply Array.toList_inj.1
  rw [hcur]
  simp [Lib.pow10Tab, Function.comp_def]
end Go.Eng

namespace Go.Eng
theorem any_inv {P : Program} {ops : Array Oper} {Q : Exit -> Act -> World -> Prop} (Inv : (Nat -> Bool) -> Act -> World -> Prop) (hord : ∀ i o, ops[i]? = some o -> ∀ e ∈ o.after, Region.binds .any e = true -> e.on < i)
    (hstep : ∀ L a w i o, Inv L a w -> ops[i]? = some o -> L i = false -> (∀ e ∈ o.after, Region.binds .any e = true -> L e.on = true) -> wpOp P ops Q i (fun a' w' => Inv (put1 L i) a' w') a w)
    (hdone : ∀ L a w, Inv L a w -> (∀ i, i < ops.size -> L i = true) -> Q .normal a w) :
    ∀ (fuel : Nat) (listed : Array Bool) (a : Act) (w : World), listed.size = ops.size -> left listed <= fuel -> Inv (fun k => listed.getD k false) a w -> wpAny P .any ops Q fuel listed a w := by
  have fin_all : ∀ (listed : Array Bool) (a : Act) (w : World), listed.size = ops.size -> Region.ready .any ops listed = [] -> Inv (fun k => listed.getD k false) a w -> Q .normal a w := by
    intro listed a w hsz hready hI
    refine hdone _ a w hI ?_
    intro i
    induction i using Nat.strongRecOn with
    | _ i ih =>
      intro hi
      by_cases hl : listed.getD i false = true
      · exact hl
      · exfalso
        have hmem : i ∈ Region.ready .any ops listed := by
          rw [mem_ready]
          refine ⟨?_, ops[i], by simp [hi], fun e hem hb => ?_⟩
          · have hi' : i < listed.size := by omega
            simp [hi'] at hl ⊢; exact hl
          · have := hord i ops[i] (by simp [hi]) e hem hb
            exact ih e.on this (by omega)
        rw [hready] at hmem
        cases hmem
  intro fuel
  induction fuel with
  | zero =>
    intro listed a w hsz hleft hI
    have hready : Region.ready .any ops listed = [] := by
      cases hr : Region.ready .any ops listed with
      | nil => rfl
      | cons i rest =>
        exfalso
        have hmem : i ∈ Region.ready .any ops listed := by rw [hr]; simp
        rw [mem_ready] at hmem
        obtain ⟨h1, o, h2, _⟩ := hmem
        have hi : i < listed.size := by rw [hsz]; exact (Array.getElem?_eq_some_iff.1 h2).1
        have := left_set hi h1
        omega
    exact ⟨hready, fin_all listed a w hsz hready hI⟩
  | succ fuel ih =>
    intro listed a w hsz hleft hI
    refine ⟨fun hready => fin_all listed a w hsz hready hI, fun i hi => ?_⟩
    rw [mem_ready] at hi
    obtain ⟨h1, o, h2, h3⟩ := hi
    have hil : i < listed.size := by rw [hsz]; exact (Array.getElem?_eq_some_iff.1 h2).1
    have hLi : listed.getD i false = false := by simp [hil] at h1 ⊢; exact h1
    refine wpOp_mono (fun a' w' hI' => ih _ a' w' (by simp [hsz]) (by have := left_set hil h1; omega) ?_) (hstep _ a w i o hI h2 hLi h3)
    have hput : (fun k => (listed.setIfInBounds i true).getD k false) = put1 (fun k => listed.getD k false) i := by
      funext k
      unfold put1
      by_cases e : i = k
      · subst e; simp [hil]
      · rw [getD_set_ne false e]
        have : (k == i) = false := by simp; exact fun h => e h.symm
        simp [this]
    rw [hput]; exact hI'
end Go.Eng

namespace Go.Eng
open Go.RowKit
def reOp (inv : List Nat) (o : Oper) : Oper := { o with after := o.after.map fun e => { e with on := (inv[e.on]?).getD e.on }, guard := o.guard.map fun p => ((inv[p.1]?).getD p.1, p.2) }
def reOps (sg inv : List Nat) (ops : Array Oper) : Array Oper := (sg.map fun k => reOp inv ((ops[k]?).getD default)).toArray
def permOk (n : Nat) (sg inv : List Nat) : Bool := sg.length == n && inv.length == n && (List.range n).all fun k => ((sg[k]?).bind (inv[·]?)) == some k && ((inv[k]?).bind (sg[·]?)) == some k
structure Perm (n : Nat) (sg inv : List Nat) : Prop where
  ls : sg.length = n
  li : inv.length = n
  si : ∀ (k i : Nat), sg[k]? = some i -> inv[i]? = some k
  is : ∀ (i k : Nat), inv[i]? = some k -> sg[k]? = some i
theorem permOk_inv {n : Nat} {sg inv : List Nat} (h : permOk n sg inv = true) : Perm n sg inv := by
  simp only [permOk, Bool.and_eq_true, beq_iff_eq, List.all_eq_true, List.mem_range] at h
  obtain ⟨⟨h1, h2⟩, h3⟩ := h
  refine ⟨h1, h2, fun k i hk => ?_, fun i k hi => ?_⟩
  · have hlt := (List.getElem?_eq_some_iff.1 hk).1
    have := (h3 k (by omega)).1
    rw [hk, Option.bind_some] at this
    exact this
  · have hlt := (List.getElem?_eq_some_iff.1 hi).1
    have := (h3 i (by omega)).2
    rw [hi, Option.bind_some] at this
    exact this
section
variable {P : Program} {ops : Array Oper} {Q : Exit -> Act -> World -> Prop} {md : Region.Mode} {sg inv : List Nat}
theorem reOps_size (hp : Perm ops.size sg inv) : (reOps sg inv ops).size = ops.size := by simp [reOps, hp.ls]
theorem reOps_get (hp : Perm ops.size sg inv) {i k : Nat} (h : sg[k]? = some i) : (reOps sg inv ops)[k]? = (ops[i]?).map (reOp inv) := by
  have hi := hp.si k i h
  have hlt : i < ops.size := by have := (List.getElem?_eq_some_iff.1 hi).1; have := hp.li; omega
  simp [reOps, h, Array.getElem?_eq_getElem hlt]
theorem reOps_none (hp : Perm ops.size sg inv) {j : Nat} (h : inv[j]? = none) : (reOps sg inv ops)[j]? = none /\ ops[j]? = none := by
  have := List.getElem?_eq_none_iff.1 h
  have h2 := reOps_size hp
  have := hp.li
  exact ⟨Array.getElem?_eq_none (by omega), Array.getElem?_eq_none (by omega)⟩
theorem reOps_yield (hp : Perm ops.size sg inv) (t : Array Value) (j : Nat) : yielded (reOps sg inv ops) t ((inv[j]?).getD j) = yielded ops t j := by
  unfold yielded
  cases hj : inv[j]? with
  | none =>
    obtain ⟨e1, e2⟩ := reOps_none hp hj
    rw [Option.getD_none, e1, e2]
  | some k =>
    rw [Option.getD_some, reOps_get hp (hp.is j k hj)]
    cases ops[j]? <;> rfl
theorem reOp_wanted (hp : Perm ops.size sg inv) (t : Array Value) (o : Oper) : Region.wanted (reOp inv o) (yielded (reOps sg inv ops) t) = Region.wanted o (yielded ops t) := by
  unfold Region.wanted
  obtain ⟨dst, op, type, pos, after, guard⟩ := o
  cases guard with
  | none => rfl
  | some p =>
    simp only [reOp, Option.map_some]
    rw [reOps_yield hp]
theorem wpOp_re (hp : Perm ops.size sg inv) {i k : Nat} (h : sg[k]? = some i) {K : Act -> World -> Prop} {a : Act} {w : World} (hw : wpOp P (reOps sg inv ops) Q k K a w) : wpOp P ops Q i K a w := by
  unfold wpOp at hw ⊢
  rw [reOps_get hp h] at hw
  cases ho : ops[i]? with
  | none => rw [ho] at hw; exact hw
  | some o =>
    rw [ho] at hw
    simp only [Option.map_some] at hw ⊢
    rw [reOp_wanted hp] at hw
    exact hw
def Same' (sg : List Nat) (L L' : Array Bool) : Prop := ∀ (k i : Nat), sg[k]? = some i -> ∀ b, L'.getD k b = L.getD i b
theorem mem_rdy {L : Array Bool} {i : Nat} : i ∈ Region.ready md ops L ↔ i < ops.size /\ L.getD i true = false /\ ((ops[i]?).map (·.after.all fun e => !Region.binds md e || L.getD e.on false)).getD false = true := by
  unfold Region.ready
  rw [List.mem_filter, List.mem_range, Bool.and_eq_true, Bool.not_eq_true']
theorem ready_re (hp : Perm ops.size sg inv) {L L' : Array Bool} (hs : L.size = ops.size) (hs' : L'.size = ops.size) (hL : Same' sg L L') {i k : Nat} (h : sg[k]? = some i) : k ∈ Region.ready md (reOps sg inv ops) L' ↔ i ∈ Region.ready md ops L := by
  have hi := hp.si k i h
  have h1 : i < ops.size := by have := (List.getElem?_eq_some_iff.1 hi).1; have := hp.li; omega
  have h2 : k < (reOps sg inv ops).size := by have := (List.getElem?_eq_some_iff.1 h).1; have := hp.ls; rw [reOps_size hp]; omega
  rw [mem_rdy, mem_rdy, hL k i h, reOps_get hp h]
  have e : ((ops[i]?.map (reOp inv)).map (·.after.all fun e => !Region.binds md e || L'.getD e.on false)).getD false = ((ops[i]?).map (·.after.all fun e => !Region.binds md e || L.getD e.on false)).getD false := by
    cases ho : ops[i]? with
    | none => rfl
    | some o =>
      simp only [Option.map_some, Option.getD_some, reOp, Array.all_map]
      congr 1
      funext e
      simp only [Function.comp]
      have hb : Region.binds md { e with on := (inv[e.on]?).getD e.on } = Region.binds md e := rfl
      rw [hb]
      congr 1
      cases hj : inv[e.on]? with
      | none =>
        have := List.getElem?_eq_none_iff.1 hj
        have := hp.li
        rw [Option.getD_none, Array.getD_eq_getD_getElem?, Array.getD_eq_getD_getElem?, Array.getElem?_eq_none (by omega), Array.getElem?_eq_none (by omega)]
      | some j => rw [Option.getD_some]; exact hL j e.on (hp.is _ _ hj) false
  rw [e]
  exact ⟨fun x => ⟨h1, x.2⟩, fun x => ⟨h2, x.2⟩⟩
theorem ready_nil (hp : Perm ops.size sg inv) {L L' : Array Bool} (hs : L.size = ops.size) (hs' : L'.size = ops.size) (hL : Same' sg L L') (h : Region.ready md ops L = []) : Region.ready md (reOps sg inv ops) L' = [] := by
  cases hr : Region.ready md (reOps sg inv ops) L' with
  | nil => rfl
  | cons k r =>
    have hk : k ∈ Region.ready md (reOps sg inv ops) L' := by rw [hr]; exact List.mem_cons_self
    have h2 := (mem_rdy.1 hk).1
    rw [reOps_size hp] at h2
    obtain ⟨i, hi⟩ : ∃ i, sg[k]? = some i := ⟨_, List.getElem?_eq_getElem (by have := hp.ls; omega)⟩
    have := (ready_re hp hs hs' hL hi).1 hk
    rw [h] at this; cases this
theorem wpAny_re (hp : Perm ops.size sg inv) : ∀ (fuel : Nat) (L L' : Array Bool) (a : Act) (w : World), L.size = ops.size -> L'.size = ops.size -> Same' sg L L' -> wpAny P md (reOps sg inv ops) Q fuel L' a w -> wpAny P md ops Q fuel L a w := by
  intro fuel
  induction fuel with
  | zero =>
    intro L L' a w hs hs' hL hw
    refine ⟨?_, hw.2⟩
    cases hr : Region.ready md ops L with
    | nil => rfl
    | cons i r =>
      have hi : i ∈ Region.ready md ops L := by rw [hr]; exact List.mem_cons_self
      have h1 := (mem_rdy.1 hi).1
      obtain ⟨k, hk⟩ : ∃ k, inv[i]? = some k := ⟨_, List.getElem?_eq_getElem (by have := hp.li; omega)⟩
      have := (ready_re hp hs hs' hL (hp.is i k hk)).2 hi
      rw [hw.1] at this; cases this
  | succ fuel ih =>
    intro L L' a w hs hs' hL hw
    refine ⟨fun hn => hw.1 (ready_nil hp hs hs' hL hn), fun i hi => ?_⟩
    have h1 := (mem_rdy.1 hi).1
    obtain ⟨k, hk⟩ : ∃ k, inv[i]? = some k := ⟨_, List.getElem?_eq_getElem (by have := hp.li; omega)⟩
    have hsk := hp.is i k hk
    have hwk := hw.2 k ((ready_re hp hs hs' hL hsk).2 hi)
    refine wpOp_re hp hsk (wpOp_mono (fun a w hx => ?_) hwk)
    refine ih _ _ a w (by simpa using hs) (by simpa using hs') (fun k2 i2 h2 b => ?_) hx
    have hk2 := (List.getElem?_eq_some_iff.1 h2).1
    have hi2 := (List.getElem?_eq_some_iff.1 (hp.si _ _ h2)).1
    have hkl := (List.getElem?_eq_some_iff.1 hsk).1
    have := hp.ls
    have := hp.li
    by_cases e : i = i2
    · subst e
      have e2 : k2 = k := by have := hp.si _ _ h2; rw [hk] at this; cases this; rfl
      subst e2
      simp [Array.getD_eq_getD_getElem?, show k2 < L'.size by omega, show i < L.size by omega]
    · have e2 : k ≠ k2 := by rintro rfl; rw [hsk] at h2; cases h2; exact e rfl
      rw [getD_set_ne b e, getD_set_ne b e2]
      exact hL k2 i2 h2 b
end
def lateGo (al : Nat -> Bool) (A : List Nat) : List Nat -> List Nat -> List Nat -> List Nat
  | [], d, acc => acc ++ d
  | i :: l, d, acc => if al i then lateGo al A l (d ++ [i]) acc else lateGo al A l (d.filter fun j => !bit A i j) (acc ++ d.filter (fun j => bit A i j) ++ [i])
def lateSg (ops : Array Oper) : List Nat := lateGo (fun i => ((ops[i]?).map allocOp).getD false) (ancs ops.toList) (List.range ops.size) [] []
def invOf (n : Nat) (sg : List Nat) : List Nat := (List.range n).map fun i => sg.findIdx (· == i)
def adrawL (P : Program) (keep : Bool) (F : FT) : DT := fun ops s =>
  match adraw P keep F ops s with
  | some x => some x
  | none =>
    let sg := lateSg ops
    let inv := invOf ops.size sg
    if permOk ops.size sg inv then adraw P keep F (reOps sg inv ops) s else none
theorem adrawL_ok {P : Program} (hm : P.follows .mixedOrders = true) {keep : Bool} {F : FT} (hF : FOk P F) : DOk P (adrawL P keep F) := by
  intro ops s s' out he r a w id Q hs hQ
  unfold adrawL at he
  split at he
  · rename_i x hx
    cases he
    exact adraw_ok hm hF ops s s' out hx r a w id Q hs hQ
  · simp only at he
    split at he
    · rename_i hp
      have hp := permOk_inv hp
      unfold adraw at he
      split at he
      case h_2 => cases he
      case h_1 trs fin htr =>
        split at he
        case isFalse => cases he
        case isTrue hc =>
          simp only [Bool.and_eq_true] at hc
          obtain ⟨⟨⟨ht, hc⟩, hfl⟩, hrd⟩ := hc
          refine wp_region_any hm ?_
          have hd := drawP_any hm hF htr ht hc hfl (readsOk_P hrd) (out := out) (s' := s') (by cases fin <;> (cases he; rfl)) r a w Q hs hQ
          rw [reOps_size hp] at hd
          refine wpAny_re hp ops.size _ _ a _ (by simp) (by simp) (fun k i h b => ?_) hd
          have hk := (List.getElem?_eq_some_iff.1 h).1
          have hi := (List.getElem?_eq_some_iff.1 (hp.si _ _ h)).1
          have := hp.ls
          have := hp.li
          simp [Array.getD_eq_getD_getElem?, show k < ops.size by omega, show i < ops.size by omega]
    · cases he
end Go.Eng

namespace Go.Eng
open Go.RowKit
def astep (P : Program) (D : FT -> DT) (keep : FuncId -> Bool) (fuel : Nat) (F : FT) : FT := fun f args h _ =>
  match P.funcs[f]? with
  | some fn =>
    match fn.body with
    | some c =>
      match acode P F (D F) (keep f) fuel c ⟨args ++ List.replicate (fn.ntmps - args.length) undef, h, []⟩ with
      | some (out, s') => match leftBy out with
        | some m => match adefs P F D keep fuel s'.ds m s'.h with
          | some (none, h') => (ares P s'.env h' fn.results.toList).map fun vs => (.ret (tup vs), h')
          | some (some v, h') => some (.pan v, h')
          | none => none
        | none => none
      | none => none
    | none => match aext P f args h with
      | some x => some x
      | none => aextB P f args h
  | none => none
theorem astep_ok {P : Program} (hP : noGoroutines P = true) {D : FT -> DT} (hD : ∀ F, FOk P F -> DOk P (D F)) {keep : FuncId -> Bool} {fuel : Nat} {F : FT} (hF : FOk P F) : FOk P (astep P D keep fuel F) := by
  intro f args h tg res h' he r w args' hr hargs o a K Q hK hQ
  simp only [astep] at he
  split at he
  case h_2 => cases he
  case h_1 fn hf =>
    split at he
    case h_2 hb =>
      split at he
      case h_2 => exact aextB_ok he hr hargs hK
      case h_1 x hx =>
      cases he
      unfold aext at hx
      split at hx
      · rename_i hs
        split at hx
        · rename_i v hp
          split at hx
          · rename_i hv
            cases hx
            rw [all_scal_eq hs hargs, pureRun_run hp]
            exact hK _ _ _ r rfl (Stp.refl hr) (scal_refl 8 v hv)
          · cases hx
        · cases hx
      · cases hx
    case h_1 c hb =>
      rw [run_callFunc hP hf hb]
      have start : SR P r ⟨args ++ List.replicate (fn.ntmps - args.length) undef, h, []⟩ { tmps := args' ++ Array.replicate (fn.ntmps - args'.size) undef, defers := [] } w :=
        ⟨start_env (P := P) (h := h) (w := w) hargs fn.ntmps, hr, trivial⟩
      refine calls_of_wp_defers hf hb ?_
      have hcode := acode_ok hF (hD _ hF) (keep := keep f) fuel c
      split at he
      case h_2 => cases he
      case h_1 out s' h1 =>
        split at he
        case h_2 => cases he
        case h_1 m hm =>
          have behind : ∀ {a' : Act} {w' : World} {r' : Rho} {u : FrameMode}, Stp P r h w r' s'.h w' -> SR P r' s' a' w' -> MR r' m u -> Leaves P fn a'.tmps (fun
            | .returned v, w'' => K (a.put o.dst v) w''
            | .panicked chain, w'' => Q (.panic chain) a w''
            | .outgrown, _ => LetsOut Q) a'.defers u w' := by
            intro a' w' r' u st sr hu
            split at he
            · rename_i h2 h3
              obtain ⟨vs, hvs, hh⟩ := Option.map_eq_some_iff.1 he
              cases hh
              refine adefs_ok hP hF (hD _ hF) h3 sr.hr sr.ds hu fun r2 w2 u2 st2 hm2 => ?_
              obtain ⟨v', e1, e2⟩ := tup_ok (sr.env.mono st2.le) st2.hr hvs
              rw [show u2 = .returning from hm2]
              exact ⟨v', e1, hK _ _ _ _ rfl (st.trans st2) e2⟩
            · rename_i v h2 h3
              cases he
              refine adefs_ok hP hF (hD _ hF) h3 sr.hr sr.ds hu fun r2 w2 u2 st2 hm2 => ?_
              obtain ⟨v', e1, e2⟩ := hm2
              rw [e1]
              exact hQ _ _ _ _ rfl (st.trans st2) e2
            · cases he
          refine hcode _ _ _ h1 r _ w _ start (fun e a' w' r' ho st sr => ?_)
          cases out with
          | norm => cases ho; cases hm; exact behind st sr rfl
          | ret => cases ho; cases hm; exact behind st sr rfl
          | pan v => obtain ⟨v', rfl, hv⟩ := ho; cases hm; exact behind st sr ⟨v', rfl, hv⟩
          | exit id => cases hm
abbrev XT := FuncId -> List Value -> Option Value
def XOk (P : Program) (X : XT) : Prop := ∀ f args v, X f args = some v -> ∀ h, Holds P f args h (.ret v) h
def afunX (P : Program) (D : FT -> DT) (keep : FuncId -> Bool) (fuel : Nat) (X : XT) : Nat -> FT
  | 0 => fun _ _ _ _ => none
  | n + 1 => fun f args h tg => match X f args with
    | some v => some (.ret v, h)
    | none => astep P D keep fuel (afunX P D keep fuel X n) f args h tg
theorem afunX_ok {P : Program} (hP : noGoroutines P = true) {D : FT -> DT} (hD : ∀ F, FOk P F -> DOk P (D F)) {keep : FuncId -> Bool} {fuel : Nat} {X : XT} (hX : XOk P X) : ∀ n, FOk P (afunX P D keep fuel X n) := by
  intro n
  induction n with
  | zero => intro f args h tg res h' he; cases he
  | succ n ih =>
    intro f args h tg res h' he
    simp only [afunX] at he
    split at he
    · rename_i v hv
      cases he
      exact hX f args v hv h
    · exact astep_ok hP hD ih f args h tg res h' he
theorem closed_getsX {P : Program} {f : FuncId} {keep : FuncId -> Bool} {n fuel : Nat} {X : XT} (hX : XOk P X) (hP : noGoroutines P = true) (hm : P.follows .mixedOrders = true) (hr : isTrue (afunX P (adrawL P false) keep fuel X n f [] [] none) = true) (h : AH) : Gets P f [] h (fun res h' => h' = h /\ res = .ret (.bool true)) := by
  obtain ⟨h1, he⟩ := isTrue_inv hr
  exact ⟨_, h, Holds.closed ((afunX_ok hP (fun F hF => adrawL_ok hm hF) hX n).holds he) rfl rfl h, Nat.le_refl _, rfl, rfl⟩
theorem tab_int {P : Program} {W : World} (hT : TabOk P W.heap) {g : Nat} (ht : Tab P g = some [.complex .f32 0 0]) : ∃ m : Int, W.cell? ⟨g, 0, none⟩ = some (.int .i64 m) := by
  obtain ⟨cur, e, fr, hc, hv⟩ := hT g _ ht
  obtain ⟨v', hv', hr⟩ := hv.get (i := 0) rfl
  cases hr with
  | unk k n m h h2 =>
    obtain ⟨x, rfl⟩ := h2 rfl
    refine ⟨x, ?_⟩
    simp only [World.cell?, hc]
    rw [<- Array.getElem?_toList]; exact hv'
def hasT : List UInt8 -> List UInt8 -> Bool
  | [], sub => sub.isEmpty
  | b :: l, sub => sub.isPrefixOf (b :: l) || hasT l sub
theorem hasT_eq : ∀ (s sub : List UInt8), Lib.contains s sub = hasT s sub := by
  intro s
  induction s with
  | nil =>
    intro sub
    unfold Lib.contains Lib.index hasT
    cases sub <;> rfl
  | cons b l ih =>
    intro sub
    have h1 := ih sub
    have h2 := Lib.index_ge l sub
    unfold Lib.contains at h1 ⊢
    rw [Lib.index, hasT]
    by_cases c : sub.isPrefixOf (b :: l) = true
    · rw [if_pos c, c]; rfl
    · rw [if_neg c]
      have c' : sub.isPrefixOf (b :: l) = false := Bool.eq_false_iff.2 c
      rw [c', Bool.false_or, <- h1]
      by_cases d : Lib.index l sub = -1
      · rw [if_pos (by simpa using d), d]
      · rw [if_neg (by simpa using d)]
        have e1 : 0 <= Lib.index l sub := by omega
        rw [decide_eq_true e1, decide_eq_true (by omega)]
end Go.Eng

namespace Go.Eng
open Go.RowKit
theorem texts_sum {P : Program} {H : Type} {h : AH} {e : TypeId} (B : Bulk H) (hu : P.underlying e = some .string) : ∀ (css : List (List Value)) (ds : List (DataW H)), css.length = ds.length ->
    (∀ (i : Nat) cs d, css[i]? = some cs -> ds[i]? = some d -> Rd' P h e cs d) ->
    ∃ ys : List ByteArray, css.flatten = ys.map Value.string /\ ys.length = css.length /\ (ys.map fun y => y.size + 1).sum <= B.fa ds := by
  intro css
  induction css with
  | nil => intro ds _ _; exact ⟨[], rfl, rfl, Nat.zero_le _⟩
  | cons cs css ih =>
    intro ds hl each
    cases ds with
    | nil => cases hl
    | cons d ds =>
      obtain ⟨ys, h1, h2, h3⟩ := ih ds (by simpa using hl) (fun i a b ha hb => each (i + 1) a b (by simpa using ha) (by simpa using hb))
      have hr := each 0 cs d rfl rfl
      have : ∃ s : ByteArray, cs = [.string s] /\ s.size + 1 <= B.f d := by
        cases hr with
        | bool h' => rw [hu] at h'; cases h'
        | int h' => rw [hu] at h'; cases h'
        | str h' s hs => exact ⟨s, rfl, by rw [B.str]; simp⟩
        | snil h' => rw [hu] at h'; cases h'
        | sempty h' => rw [hu] at h'; cases h'
        | slice h' => rw [hu] at h'; cases h'
        | struct h' => rw [hu] at h'; cases h'
        | array h' => rw [hu] at h'; cases h'
      obtain ⟨s, rfl, hs⟩ := this
      refine ⟨s :: ys, by rw [List.flatten_cons, h1]; rfl, by simp [h2], ?_⟩
      rw [List.map_cons, List.sum_cons, B.cons]; omega
theorem rdTexts {P : Program} {H : Type} {h : AH} {t e : TypeId} {v : Value} {d : DataW H} (B : Bulk H) (hu : P.underlying t = some (.slice e)) (he : P.underlying e = some .string) (hr : Rd' P h t [v] d) :
    ∃ ys : List ByteArray, Rds h 1 v ys.length (ys.map Value.string) /\ (ys.map fun y => y.size + 1).sum <= B.f d := by
  generalize hc : [v] = cs at hr
  cases hr with
  | bool hu' => rw [hu] at hu'; cases hu'
  | int hu' => rw [hu] at hu'; cases hu'
  | str hu' => rw [hu] at hu'; cases hu'
  | snil hu' => cases hc; exact ⟨[], .nil, Nat.zero_le _⟩
  | sempty hu' => cases hc; exact ⟨[], .emp, Nat.zero_le _⟩
  | slice hu' hcell hel hn hd hm hsz each =>
    rename_i e' b n css ds rest
    cases hc
    rw [hu] at hu'; cases hu'
    obtain ⟨ys, h1, h2, h3⟩ := texts_sum B he css ds (by omega) (fun i a b ha hb => each i a b ha hb)
    have hyn : ys.length = n := by omega
    refine ⟨ys, ?_, by rw [B.sl]; omega⟩
    rw [hyn]
    refine .mk hcell ?_ ?_
    · rw [h1, List.length_map, hyn]; omega
    · rw [h1, List.drop_zero, List.take_of_length_le (by rw [List.length_map, hyn]; omega)]
  | struct hu' => rw [hu] at hu'; cases hu'
  | array hu' => rw [hu] at hu'; cases hu'
end Go.Eng
